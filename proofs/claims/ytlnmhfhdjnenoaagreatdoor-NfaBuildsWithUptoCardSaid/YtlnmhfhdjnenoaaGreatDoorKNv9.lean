/- Parts of the proof: PDp11, PLrg, PBuE, PNBu, PWt5, PPow4, VOpen, POpenS, VTop, PNetIn -/
import Derived.Test.YtlnmhfhdjnenoaaGreatDoorKNv8
import Derived.Test.YtlnmhfhdjnenoaaGreatDoorKNv7
import Derived.Test.YtlnmhfhdjnenoaaGreatDoorKNv3
import Derived.Test.YtlnmhfhdjnenoaaGreatDoorKNv6
import Derived.Test.YtlnmhfhdjnenoaaGreatDoorRows
import Derived.Test.YtlnmhfhdjnenoaaGreatDoorKNv2
import Derived.OpenShut
import Derived.ChangeSame
import Derived.Deep.DeepHandedRow
import Derived.ProofKit
import Derived.Test.YtlnmhfhdjnenoaaGreatDoorKNv1
import Derived.JoinedCond
import Derived.WideKeyArgs
set_option maxHeartbeats 64000000
open Bool renaming and_eq_true → Vo
open Int renaming toNat_natCast → Vi
open List renaming length_singleton → UM, length_append → UN, getElem?_map → UP, all_eq_true → UQ, getElem?_eq_getElem → UR, perm_append_singleton → US, mem_of_getElem? → UU, getElem?_eq_some_iff → UV, getElem?_take_of_lt → UW, take → UX, size_toArray → UY, toList_toArray → UZ, take_length_add_append → Va, drop_length_add_append → Vb, length_cons → Vc, sublist_cons_self → Ve, mem_append_right → Vf, mem_append_left → Vg, mem_singleton → Vh, take_add_one → Vj, nil_sublist → Vk, take_length → Vl, length_take → Vm, cons_append → Vn, nil_append → Vp, length_map → Vq, append_nil → Vr, replicate → Vs, cons → Vt, map_cons → Vu
open Nat renaming le_refl → UL, zero_add → UO, zero_le → UT
open Option renaming bind_eq_some_iff → Vd
set_option linter.unusedVariables false
set_option linter.unusedSimpArgs false
set_option maxRecDepth 100000
namespace Go.Proofs.YtlnmhfhdjnenoaaGreatDoor
open Go.VC Go.Lib
section
variable{op a b m n m' n':Value}{bits:List Value}
theorem UF(h:bits.length=256):Ac (AZ op bits a b m n) 259 [m']=AZ op bits a b m' n:=by
 unfold Ac AZ;have e1:([op]++(bits++[a,b,m,n])).take 259=[op]++(bits++[a,b]):=by
  rw [show([op]++(bits++[a,b,m,n])).take (258+1)=op::(bits++[a,b,m,n]).take 258 from rfl,show(258:Nat)=bits.length+2 by omega,Va];rfl
 have e2:([op]++(bits++[a,b,m,n])).drop (259+1)=[n]:=by
  rw [show([op]++(bits++[a,b,m,n])).drop (259+1)=(bits++[a,b,m,n]).drop 259 from rfl,show(259:Nat)=bits.length+3 by omega,Vb];rfl
 rw [e1,show 259+[m'].length=259+1 from rfl,e2];simp
theorem UG(h:bits.length=256):Ac (AZ op bits a b m n) 260 [n']=AZ op bits a b m n':=by
 unfold Ac AZ;have e1:([op]++(bits++[a,b,m,n])).take 260=[op]++(bits++[a,b,m]):=by
  rw [show([op]++(bits++[a,b,m,n])).take (259+1)=op::(bits++[a,b,m,n]).take 259 from rfl,show(259:Nat)=bits.length+3 by omega,Va];rfl
 have e2:([op]++(bits++[a,b,m,n])).drop (260+1)=[]:=by
  rw [show([op]++(bits++[a,b,m,n])).drop (260+1)=(bits++[a,b,m,n]).drop 260 from rfl,show(260:Nat)=bits.length+4 by omega,Vb];rfl
 rw [e1,show 260+[n'].length=260+1 from rfl,e2];simp
end
theorem GW(x y m n:Int){S:Nat→Prop}{H:Aa}{K:Value→Prop}(k:K (.agg (rnL ⟨x,0#256,y,0,m,n⟩).toArray)):
  AB Tryz.prog (Instr.build 94 [(0,.int .i64 x),(2,.int .i64 y),(4,.int .i64 m),(5,.int .i64 n)].toArray) S H K:=by
 refine Av Tryz.underlying94 rfl (.agg rnZ.toArray) FY (rnL ⟨x,0#256,y,0,m,n⟩) ?_ k;have hr:(Vs 256 (Value.bool false)).length=256:=List.length_replicate;refine(Bb (i:=0) (off:=0) (size:=1) (by kernel_rfl) rfl (by show _≤rnZ.toArray.size;rw [UY,AP];decide)).trans ?_;have e0:Ac (Value.agg rnZ.toArray).cells.toList 0 (Value.int .i64 x).cells.toList=AZ (.int .i64 x) (Vs 256 (.bool false)) (.int .i64 0) (.int .i64 0) (.int .i64 0) (.int .i64 0):=Q9;rw [e0];refine(Bb (i:=2) (off:=257) (size:=1) (by kernel_rfl) rfl (by rw [UY,D9 hr];decide)).trans ?_;rw [UZ,show(Value.int IntKind.i64 y).cells.toList=[Value.int .i64 y]from rfl,Ul hr];refine(Bb (i:=4) (off:=259) (size:=1) (by kernel_rfl) rfl (by rw [UY,D9 hr];decide)).trans ?_;rw [UZ,show(Value.int IntKind.i64 m).cells.toList=[Value.int .i64 m]from rfl,UF hr];refine(Bb (i:=5) (off:=260) (size:=1) (by kernel_rfl) rfl (by rw [UY,D9 hr];decide)).trans ?_;rw [UZ,show(Value.int IntKind.i64 n).cells.toList=[Value.int .i64 n]from rfl,UG hr];unfold rnL;rw [show(RnM.mk x 0#256 y 0 m n).set=0#256 from rfl,EP];rfl
theorem RP:(Tryz.prog.info? 83).bind (·.zero)=some (.agg #[.slice none 0 0,.slice none 0 0]):=by kernel_rfl
inductive KP(ws:List RwM):List FrD→List AF→Prop
 | nil:KP ws [] []
 | cons {fr:List FrD} {fs:List AF} {g:FrD} {a:AF}:KP ws fr fs→FrR ws g a→KP ws (fr++[g]) (a::fs)
theorem KP.more{ws us:List RwM}{fr:List FrD}{fs:List AF}(h:KP ws fr fs):KP (ws++us) fr fs:=by
 induction h with
 | nil=>exact .nil
 | cons _ g ih=>exact .cons ih g.more
theorem KP.len{ws:List RwM}{fr:List FrD}{fs:List AF}(h:KP ws fr fs):fr.length=fs.length:=by
 induction h with
 | nil=>rfl
 | cons _ g ih=>simp [ih]
theorem IxR.num{ws:List RwM}{x:Int}{o:Option ReM}(h:IxR ws x o)(hl:ws.length≤16777216):A9 x:=by
 cases o with
 | none=>rw [show x= -1 from h];exact JI
 | some r=>
   obtain⟨j,w,rfl,h2,-⟩:=h;have:=(UV.1 h2).1;exact Ij (by omega)
theorem FrR.nums{ws:List RwM}{f:FrD}{a:AF}(h:FrR ws f a)(hl:ws.length≤16777216):FrN f:=⟨h.alt.num hl,h.meet.num hl,h.row.num hl,h.factor.num hl⟩
theorem KV{t:ByteArray}{i c p:Nat}(h:BD t i= .inl (c,p)):c≠0:=by
 unfold BD at h;split at h
 ·split at h
  ·rename_i e hu;cases h;unfold upM at hu;split at hu
   ·split at hu
    ·cases hu
    ·split at hu
     ·cases hu
     ·cases hu;decide
   ·cases hu
  ·unfold E1 at h;split at h
   ·split at h
    ·cases h;decide
    ·cases h
   ·cases h;decide
 ·cases h;decide
def Gd(t:ByteArray)(H:Aa)(v:Value)(H':Aa):Prop:=match DK t with
 | .inl (c,p)=>v= .tuple #[.agg reZ.toArray,.int .i64 (c:Int),.int .i64 p]
 | .inr r=>∃ns na nc root,v= .tuple #[.agg (reL (.slice na ns.length nc) ((root:Nat):Int)).toArray,.int .i64 0,.int .i64 0]∧Bc ns r root∧ns.length=r.nodes∧OC r ns∧SlO tRn none_ H' H.size 94 (.slice na ns.length nc) ns
structure Uw(H:Aa)(t:ByteArray)(q2 sb i:Nat)(G:Aa):Prop where
 ex:∃(f:AF) (fs:List AF) (ds:List RnM) (ws:List RwM) (fr:List FrD) (fD:FrD) (na:Option Addr) (nc fb fc n:Nat),BC t ⟨0,DJ (-1),[]⟩=BC t ⟨i,f,fs⟩∧i≤t.size∧Raw ds ws∧FrR ws fD f∧KP ws fr fs∧ds.length≤4*i∧fs.length≤1000∧
  StB (Old H) H G (stP sb fb na nc fc n ds (fr++[fD]) [pB tRe q2 reZ])
theorem Qr(ws:List RwM)(p:Int):FrR ws ⟨p,-1,-1,0,-1,-1⟩ (DJ p):=⟨rfl,rfl,rfl,rfl,rfl,rfl⟩
theorem GA{H:Aa}{b:Nat}(h:Blk H b tRe reZ):Bo H b 0 reZ:=h.cells (fun j v hv=>by rw [UO];exact hv)
theorem M1{c:Nat}(h:E6 c=true):c=42∨c=43∨c=63∨c=123:=by
 apply Classical.byContradiction;intro hn;rw [Il (by omega) (by omega) (by omega) (by omega)]at h;cases h
theorem Mf(t:ByteArray)(H:Aa):Ao Tryz.prog 8 #[.string t] H fun v H'=>Agr (Old H) H H'∧Gd t H v H':=by
 refine Ao.of_vcL Tryz.func8 rfl (Tryz.call8 _) (Ag _ reZ HJ rfl ?_);intro q2 H1 hq1 hs1 hb1 ha1;have st1:=(St.nil H).box hq1 hs1 hb1 ha1;by_cases hbig:1048576<t.size
 ·have d1:decide (1048576<(t.size:Int))=true:=decide_eq_true (by omega);have hpM:DK t= .inl (1,0):=by unfold DK;rw [if_pos hbig]
  (conv=>whnf);rw [d1];refine Av Tryz.underlying32 rfl _ HJ reZ rfl (Ay (cs:=reZ) st1 0 rfl rfl (UL _) rfl fun Gz sz=>?_);have ez:Ac reZ 0 reZ=reZ:=A8 rfl;rw [ez]at sz;refine ldN (cs:=reZ) Dd (GA (sz.blk 0 rfl)) trivial (⟨sz.old,?_⟩);unfold Gd;rw [hpM];rfl
 have d1:decide (1048576<(t.size:Int))=false:=decide_eq_false (by omega);have hpM:DK t=BC t ⟨0,DJ (-1),[]⟩:=by unfold DK;rw [if_neg hbig]
 (conv=>whnf);rw [d1];refine Av Tryz.underlying83 rfl (.agg #[.slice none 0 0,.slice none 0 0]) RP [.slice none 0 0,.slice none 0 0] rfl (BM [.slice none 0 0,.slice none 0 0] rfl ?_);intro sb H2 hq2 hs2 hb2 ha2;have st2:StB (Old H) H H2 [pB tSt sb [.slice none 0 0,.slice none 0 0],pS tRn 94 none 0 0 [],pS tFr 85 none 0 0 [],pB tRe q2 reZ]:=(((st1.box hq2 hs2 hb2 ha2).nils tRn 94).nils tFr 85).pick [1,2,3,0] (by decide);refine As.heldZ (fun k=>k=sb) [10] (sq [0,1,2,3,4] (.f 5 (.f 6 (.f 7 (sq [8,9] (.f 10 .e)))))) rfl (by kernel_rfl) (VC.fa Bs ?_);refine ld1 (v:=.slice none 0 0) D2 (by rw [(st2.blk 0 rfl).cell];rfl) rfl ?_;refine Ai.mk (Qp (-1) H2) ?_;rintro _ H3 ⟨rfl,ha3⟩;have st3:=st2.call ha3;refine⟨fun k hk=>by rw [show k=sb from hk];exact(st3.blk 0 rfl).trans (st2.blk 0 rfl).symm,?_⟩;refine AM Hj (frO (-1)) rfl rfl (by decide) (by decide) ?_;intro z H4 hz hs4 hb4 ha4;have st4:=st3.skip hz ha4;refine⟨fun k hk=>by rw [show k=sb from hk];exact(st4.blk 0 rfl).trans (st2.blk 0 rfl).symm,?_⟩;refine KT (ys:=[(⟨-1,-1,-1,0,-1,-1⟩:FrD)]) (ds:=frO (-1)) st4 2 Hj rfl (hb4.cells (o:=0) (cs:=frO (-1)) fun j v hv=>by rw [UO];exact hv) (Ty.reps_one (T:=tFr) rfl) rfl (fun u hu=>UQ.1 (Oh ⟨-1,-1,-1,0,-1,-1⟩) u hu) (by decide) (by decide) fun a5 fc5 H5 st5 ha5=>?_;refine⟨fun k hk=>by rw [show k=sb from hk];exact(st5.blk 0 rfl).trans (st2.blk 0 rfl).symm,?_⟩;obtain⟨fb5,rfl⟩:=st5.adr 2 rfl (by decide);refine VC.fa Bs ?_;refine AG st5 0 D2 rfl (by show _<(2:Nat);decide) rfl fun H6 st6=>?_;replace st6:StB (Old H) H H6 (stP sb fb5 none 0 fc5 1 [] ([]++[(⟨-1,-1,-1,0,-1,-1⟩:FrD)]) [pB tRe q2 reZ]):=st6;clear st1 st2 st3 st4 st5;(conv=>whnf);refine AH.mk [6] (fun i:Nat=>[.int .i64 (i:Int)]) (fun i G=>Uw H t q2 sb i G) (fun i _=>t.size - i) ?_ ?_
 ·(conv=>whnf);exact⟨0,rfl,⟨DJ (-1),[],[],[],[],_,none,0,fb5,fc5,1,rfl,UT _,.nil,Qr [] (-1),.nil,UT _,UT _,st6⟩⟩
 ·rintro i G junk ⟨f,fs,ds,ws,fr,fD,na,nc,fb,fc,n,hpr,hi,hR,hF,hK,hld,hlf,sg⟩;clear st6 d1;have hrun:BC t ⟨0,DJ (-1),[]⟩=BC t ⟨i,f,fs⟩:=hpr;have hlen:=Og sg;have hkl:=hK.len;have hws:=hR.len;have hN:=hF.nums (by omega);refine AQ.mk (fun hz=>?_) (fun hz=>?_)<;>simp only [decide_eq_true_eq,decide_eq_false_iff_not]at hz
  ·have hit:i<t.size:=by omega
   (conv=>whnf);try (refine Al.run ?_)
   refine vbt hit (As.lex rfl (by kernel_rfl) (VC.fa Bs ?_));refine ld1 (v:=.slice (some ⟨fb,0,none⟩) n fc) D2 (by rw [(sg.blk 0 rfl).cell];rfl) trivial ?_;refine VC.fa Bs ?_;refine ld1 (v:=.slice (some ⟨fb,0,none⟩) n fc) D2 (by rw [(sg.blk 0 rfl).cell];rfl) trivial ?_;(conv=>whnf);rw [w64 (x:=(n:Int) - 1) (by omega) (by omega)];refine ixE (j:=fr.length) Hj sg 2 rfl (by simp) (by omega) ?_;have ER:∀{e:Nat×Nat},BO t ⟨i,f,fs⟩= .inl e→BC t ⟨0,DJ (-1),[]⟩= .inl (Qi e):=fun h=>hrun.trans (DL hit h);have GO:∀{s:RdS},BO t ⟨i,f,fs⟩= .inr s→BC t ⟨0,DJ (-1),[]⟩=BC t s:=fun h=>hrun.trans (D8 hit h);refine Af (Ph (bt t i) G) fun G1 hg1=>?_;replace sg:=sg.call hg1;by_cases hpost:E6 (bt t i)=true
   ·rw [hpost];refine VC.fa Dq (ld1 (v:=.int .i64 fD.factor) ct3 (AY sg (k:=5) rfl) trivial ?_);cases hfac:f.factor with
    | none=>
      have hx:=hF.factor;rw [hfac]at hx;have d2:decide (fD.factor<0)=true:=decide_eq_true (by rw [show fD.factor= -1 from hx];decide);(conv=>whnf);rw [d2];refine Av Tryz.underlying32 rfl _ HJ reZ rfl (Ay (cs:=reZ) sg 3 rfl rfl (UL _) rfl fun Gz sz=>?_);have ez:Ac reZ 0 reZ=reZ:=A8 rfl;rw [ez]at sz;refine ldN (cs:=reZ) Dd (GA (sz.blk 3 rfl)) trivial (⟨sz.old,?_⟩);unfold Gd;rw [hpM,ER (Eu hpost hfac)];rfl
    | some a=>
      have hx:=hF.factor;rw [hfac]at hx;obtain⟨jx,wx,ex1,ex2,ex3⟩:=hx;have d2:decide (fD.factor<0)=false:=decide_eq_false (by omega);(conv=>whnf);rw [d2];(conv=>whnf);rw [w64 (x:=(i:Int)+1) (by omega) (by omega)];rcases M1 hpost with hc | hc | hc | hc
      ·rw [hc];(conv=>whnf);try (refine Al.run ?_)
       (conv=>whnf);try (refine Al.run ?_)
       (conv=>whnf);try (refine Al.run ?_)
       have f1:fb≠sb:=fun e=>sg.apart2 (i:=0) (j:=2) rfl rfl (by decide) sb rfl (.inl ⟨0,n,fc,by rw [e]⟩);have f2:¬slB (.slice na ds.length nc) fb:=fun e=>sg.apart2 (i:=1) (j:=2) rfl rfl (by decide) fb (.inl e) (.inl ⟨0,n,fc,rfl⟩);have f3:=sg.ltE 2 rfl;refine As.heldZ (fun k=>k=sb∨k=fb) [16] (sq [0,1,2,3,4,5,6,7,8,9,10,11] (.f 12 (.f 13 (sq [14,15] (.f 16 .e))))) rfl (by kernel_rfl) (VC.fa C6 ?_);refine ld1 (v:=.slice na ds.length nc) C0 (by rw [(sg.blk 0 rfl).cell];rfl) (.inl rfl) ?_;refine VC.fa Dq (ld1 (v:=.int .i64 fD.factor) ct3 (AY sg (k:=5) rfl) (.inr rfl) (GW 7 fD.factor (0) (-1) (AM CU (rnL (B8 fD.factor (0) (-1))) rfl (Aq _) (by decide) (by decide) ?_)));intro zz G4 hz hs4 hb4 ha4;have sg4:=sg.skip hz ha4;have az:Agr (fun k=>k=fb) _ G4:=fun k hk=>ha4 k (by have e1:k=fb:=hk;have:zz=_:=hz;omega);refine⟨fun k hk=>by
        rcases hk with hk | hk
        ·rw [show k=sb from hk];exact(sg4.blk 0 rfl).trans (sg.blk 0 rfl).symm
        ·exact az k hk,?_⟩
       refine Hp (ys:=[B8 fD.factor (0) (-1)]) sg4 1 CU rfl (hb4.cells (o:=0) (cs:=rnL (B8 fD.factor (0) (-1))) fun j v hv=>by rw [UO];exact hv) (Ty.reps_one ⟨rfl,Bu (x:=7) (by unfold A9;omega),Bu hN.factor,Bu (x:=0) (by unfold A9;omega),Bu (x:=0) (by unfold A9;omega),Bu (x:= -1) (by unfold A9;omega)⟩) rfl (fun u hu=>UQ.1 (Br _) u hu) (by simp [maxLen];omega) (by simp;omega) fun a5 c5 G5 sg5 ha5=>?_;have el:ds.length+[B8 fD.factor (0) (-1)].length=(ds++[B8 fD.factor (0) (-1)]).length:=by simp
       rw [el]at sg5 ⊢;refine⟨fun k hk=>by
        rcases hk with hk | hk
        ·rw [show k=sb from hk];exact(sg5.blk 0 rfl).trans (sg.blk 0 rfl).symm
        ·exact(ha5 k (by rw [show k=fb from hk];exact⟨sg4.ltE 2 rfl,f2⟩)).trans (az k hk),?_⟩
       refine VC.fa C6 ?_;refine AG sg5 0 C0 rfl (by show _<(2:Nat);decide) rfl fun G6 sg6=>?_;replace sg6:StB (Old H) H G6 (stP sb fb a5 c5 fc n (ds++[B8 fD.factor (0) (-1)]) (fr++[fD]) [pB tRe q2 reZ]):=sg6;refine VC.fa C6 ?_;refine ld1 (v:=.slice a5 (ds++[B8 fD.factor (0) (-1)]).length c5) C0 (by rw [(sg6.blk 0 rfl).cell];rfl) trivial ?_;have w1:IntKind.wrap .i64 (((ds++[B8 fD.factor (0) (-1)]).length:Int) - 1)=(ds.length:Int):=by
        rw [UN,UM,w64 (by omega) (by omega)];omega
       (conv=>whnf);rw [w1];refine VC.fa Dq (DN (k:=5) (f':={fD with factor:=(ds.length:Int)}) sg6 ct3 (by decide) rfl rfl fun G7 sg7 ja=>?_);(conv=>whnf);refine⟨rfl,i+1,rfl,⟨_,fs,ds++[B8 fD.factor (0) (-1)],ws++[.rep wx (0) (-1)],fr,{fD with factor:=(ds.length:Int)},_,_,_,_,n,GO (EW hfac hpost (by unfold DT;rw [if_pos hc])),by omega,hR.add (w:=.rep wx (0) (-1)) ⟨jx,by rw [ex1],ex2,.inr (by omega)⟩,⟨hF.place,hF.alt.more,hF.meet.more,hF.sign,hF.row.more,IxR.new hR (by show BG wx.den (AD (0)) (-1)=_;rw [ex3,show AD 0=0 from rfl])⟩,hK.more,by simp only [UN,UM];omega,hlf,sg7⟩,by omega⟩
      ·rw [hc];(conv=>whnf);try (refine Al.run ?_)
       (conv=>whnf);try (refine Al.run ?_)
       (conv=>whnf);try (refine Al.run ?_)
       have f1:fb≠sb:=fun e=>sg.apart2 (i:=0) (j:=2) rfl rfl (by decide) sb rfl (.inl ⟨0,n,fc,by rw [e]⟩);have f2:¬slB (.slice na ds.length nc) fb:=fun e=>sg.apart2 (i:=1) (j:=2) rfl rfl (by decide) fb (.inl e) (.inl ⟨0,n,fc,rfl⟩);have f3:=sg.ltE 2 rfl;refine As.heldZ (fun k=>k=sb∨k=fb) [16] (sq [0,1,2,3,4,5,6,7,8,9,10,11] (.f 12 (.f 13 (sq [14,15] (.f 16 .e))))) rfl (by kernel_rfl) (VC.fa C6 ?_);refine ld1 (v:=.slice na ds.length nc) C0 (by rw [(sg.blk 0 rfl).cell];rfl) (.inl rfl) ?_;refine VC.fa Dq (ld1 (v:=.int .i64 fD.factor) ct3 (AY sg (k:=5) rfl) (.inr rfl) (GW 7 fD.factor (-2) (-1) (AM CU (rnL (B8 fD.factor (-2) (-1))) rfl (Aq _) (by decide) (by decide) ?_)));intro zz G4 hz hs4 hb4 ha4;have sg4:=sg.skip hz ha4;have az:Agr (fun k=>k=fb) _ G4:=fun k hk=>ha4 k (by have e1:k=fb:=hk;have:zz=_:=hz;omega);refine⟨fun k hk=>by
        rcases hk with hk | hk
        ·rw [show k=sb from hk];exact(sg4.blk 0 rfl).trans (sg.blk 0 rfl).symm
        ·exact az k hk,?_⟩
       refine Hp (ys:=[B8 fD.factor (-2) (-1)]) sg4 1 CU rfl (hb4.cells (o:=0) (cs:=rnL (B8 fD.factor (-2) (-1))) fun j v hv=>by rw [UO];exact hv) (Ty.reps_one ⟨rfl,Bu (x:=7) (by unfold A9;omega),Bu hN.factor,Bu (x:=0) (by unfold A9;omega),Bu (x:= -2) (by unfold A9;omega),Bu (x:= -1) (by unfold A9;omega)⟩) rfl (fun u hu=>UQ.1 (Br _) u hu) (by simp [maxLen];omega) (by simp;omega) fun a5 c5 G5 sg5 ha5=>?_;have el:ds.length+[B8 fD.factor (-2) (-1)].length=(ds++[B8 fD.factor (-2) (-1)]).length:=by simp
       rw [el]at sg5 ⊢;refine⟨fun k hk=>by
        rcases hk with hk | hk
        ·rw [show k=sb from hk];exact(sg5.blk 0 rfl).trans (sg.blk 0 rfl).symm
        ·exact(ha5 k (by rw [show k=fb from hk];exact⟨sg4.ltE 2 rfl,f2⟩)).trans (az k hk),?_⟩
       refine VC.fa C6 ?_;refine AG sg5 0 C0 rfl (by show _<(2:Nat);decide) rfl fun G6 sg6=>?_;replace sg6:StB (Old H) H G6 (stP sb fb a5 c5 fc n (ds++[B8 fD.factor (-2) (-1)]) (fr++[fD]) [pB tRe q2 reZ]):=sg6;refine VC.fa C6 ?_;refine ld1 (v:=.slice a5 (ds++[B8 fD.factor (-2) (-1)]).length c5) C0 (by rw [(sg6.blk 0 rfl).cell];rfl) trivial ?_;have w1:IntKind.wrap .i64 (((ds++[B8 fD.factor (-2) (-1)]).length:Int) - 1)=(ds.length:Int):=by
        rw [UN,UM,w64 (by omega) (by omega)];omega
       (conv=>whnf);rw [w1];refine VC.fa Dq (DN (k:=5) (f':={fD with factor:=(ds.length:Int)}) sg6 ct3 (by decide) rfl rfl fun G7 sg7 ja=>?_);(conv=>whnf);refine⟨rfl,i+1,rfl,⟨_,fs,ds++[B8 fD.factor (-2) (-1)],ws++[.rep wx (-2) (-1)],fr,{fD with factor:=(ds.length:Int)},_,_,_,_,n,GO (EW hfac hpost (by unfold DT;rw [if_neg (by omega),if_pos hc])),by omega,hR.add (w:=.rep wx (-2) (-1)) ⟨jx,by rw [ex1],ex2,.inl ⟨rfl,rfl⟩⟩,⟨hF.place,hF.alt.more,hF.meet.more,hF.sign,hF.row.more,IxR.new hR (by show BG wx.den (AD (-2)) (-1)=_;rw [ex3,show AD (-2)=1 from rfl])⟩,hK.more,by simp only [UN,UM];omega,hlf,sg7⟩,by omega⟩
      ·rw [hc];(conv=>whnf);try (refine Al.run ?_)
       (conv=>whnf);try (refine Al.run ?_)
       (conv=>whnf);try (refine Al.run ?_)
       have f1:fb≠sb:=fun e=>sg.apart2 (i:=0) (j:=2) rfl rfl (by decide) sb rfl (.inl ⟨0,n,fc,by rw [e]⟩);have f2:¬slB (.slice na ds.length nc) fb:=fun e=>sg.apart2 (i:=1) (j:=2) rfl rfl (by decide) fb (.inl e) (.inl ⟨0,n,fc,rfl⟩);have f3:=sg.ltE 2 rfl;refine As.heldZ (fun k=>k=sb∨k=fb) [16] (sq [0,1,2,3,4,5,6,7,8,9,10,11] (.f 12 (.f 13 (sq [14,15] (.f 16 .e))))) rfl (by kernel_rfl) (VC.fa C6 ?_);refine ld1 (v:=.slice na ds.length nc) C0 (by rw [(sg.blk 0 rfl).cell];rfl) (.inl rfl) ?_;refine VC.fa Dq (ld1 (v:=.int .i64 fD.factor) ct3 (AY sg (k:=5) rfl) (.inr rfl) (GW 7 fD.factor (0) (1) (AM CU (rnL (B8 fD.factor (0) (1))) rfl (Aq _) (by decide) (by decide) ?_)));intro zz G4 hz hs4 hb4 ha4;have sg4:=sg.skip hz ha4;have az:Agr (fun k=>k=fb) _ G4:=fun k hk=>ha4 k (by have e1:k=fb:=hk;have:zz=_:=hz;omega);refine⟨fun k hk=>by
        rcases hk with hk | hk
        ·rw [show k=sb from hk];exact(sg4.blk 0 rfl).trans (sg.blk 0 rfl).symm
        ·exact az k hk,?_⟩
       refine Hp (ys:=[B8 fD.factor (0) (1)]) sg4 1 CU rfl (hb4.cells (o:=0) (cs:=rnL (B8 fD.factor (0) (1))) fun j v hv=>by rw [UO];exact hv) (Ty.reps_one ⟨rfl,Bu (x:=7) (by unfold A9;omega),Bu hN.factor,Bu (x:=0) (by unfold A9;omega),Bu (x:=0) (by unfold A9;omega),Bu (x:=1) (by unfold A9;omega)⟩) rfl (fun u hu=>UQ.1 (Br _) u hu) (by simp [maxLen];omega) (by simp;omega) fun a5 c5 G5 sg5 ha5=>?_;have el:ds.length+[B8 fD.factor (0) (1)].length=(ds++[B8 fD.factor (0) (1)]).length:=by simp
       rw [el]at sg5 ⊢;refine⟨fun k hk=>by
        rcases hk with hk | hk
        ·rw [show k=sb from hk];exact(sg5.blk 0 rfl).trans (sg.blk 0 rfl).symm
        ·exact(ha5 k (by rw [show k=fb from hk];exact⟨sg4.ltE 2 rfl,f2⟩)).trans (az k hk),?_⟩
       refine VC.fa C6 ?_;refine AG sg5 0 C0 rfl (by show _<(2:Nat);decide) rfl fun G6 sg6=>?_;replace sg6:StB (Old H) H G6 (stP sb fb a5 c5 fc n (ds++[B8 fD.factor (0) (1)]) (fr++[fD]) [pB tRe q2 reZ]):=sg6;refine VC.fa C6 ?_;refine ld1 (v:=.slice a5 (ds++[B8 fD.factor (0) (1)]).length c5) C0 (by rw [(sg6.blk 0 rfl).cell];rfl) trivial ?_;have w1:IntKind.wrap .i64 (((ds++[B8 fD.factor (0) (1)]).length:Int) - 1)=(ds.length:Int):=by
        rw [UN,UM,w64 (by omega) (by omega)];omega
       (conv=>whnf);rw [w1];refine VC.fa Dq (DN (k:=5) (f':={fD with factor:=(ds.length:Int)}) sg6 ct3 (by decide) rfl rfl fun G7 sg7 ja=>?_);(conv=>whnf);refine⟨rfl,i+1,rfl,⟨_,fs,ds++[B8 fD.factor (0) (1)],ws++[.rep wx (0) (1)],fr,{fD with factor:=(ds.length:Int)},_,_,_,_,n,GO (EW hfac hpost (by unfold DT;rw [if_neg (by omega),if_neg (by omega),if_pos hc])),by omega,hR.add (w:=.rep wx (0) (1)) ⟨jx,by rw [ex1],ex2,.inr (by omega)⟩,⟨hF.place,hF.alt.more,hF.meet.more,hF.sign,hF.row.more,IxR.new hR (by show BG wx.den (AD (0)) (1)=_;rw [ex3,show AD 0=0 from rfl])⟩,hK.more,by simp only [UN,UM];omega,hlf,sg7⟩,by omega⟩
      ·rw [hc];(conv=>whnf);try (refine Al.run ?_)
       (conv=>whnf);try (refine Al.run ?_)
       (conv=>whnf);try (refine Al.run ?_)
       refine Ai.mk (OH (i:=i) (by omega) hit) ?_;rintro v G2 ⟨hag,hBr⟩;replace sg:=sg.call hag;unfold BrD at hBr;cases hbm:BD t i with
       | inl e=>
         obtain⟨c,p⟩:=e;rw [hbm]at hBr;replace hBr:v= .tuple #[.int .i64 0,.int .i64 0,.int .i64 0,.int .i64 (c:Int),.int .i64 (p:Int)]:=hBr;subst hBr;have hcz:=KV hbm;have d3:((c:Int) != 0)=true:=bne_iff_ne.2 (by omega);(conv=>whnf);rw [d3];refine Av Tryz.underlying32 rfl _ HJ reZ rfl (Ay (cs:=reZ) sg 3 rfl rfl (UL _) rfl fun Gz sz=>?_);have ez:Ac reZ 0 reZ=reZ:=A8 rfl;rw [ez]at sz;refine ldN (cs:=reZ) Dd (GA (sz.blk 3 rfl)) trivial (⟨sz.old,?_⟩);unfold Gd;rw [hpM,ER (IK hfac hpost (by unfold DT;rw [if_neg (by omega),if_neg (by omega),if_neg (by omega),hbm]))];rfl
       | inr y=>
         obtain⟨m,nn,kk⟩:=y;rw [hbm]at hBr;replace hBr:v= .tuple #[.int .i64 (m:Int),.int .i64 nn,.int .i64 (kk:Int),.int .i64 0,.int .i64 0]:=hBr;subst hBr;have hok:=Hr hbm;obtain⟨o1,o2,o3,o4,o5,o6⟩:=hok;have hlow:AD (m:Int)=m:=by unfold AD;rw [if_neg (by omega),Vi]
         (conv=>whnf);have f1:fb≠sb:=fun e=>sg.apart2 (i:=0) (j:=2) rfl rfl (by decide) sb rfl (.inl ⟨0,n,fc,by rw [e]⟩);have f2:¬slB (.slice na ds.length nc) fb:=fun e=>sg.apart2 (i:=1) (j:=2) rfl rfl (by decide) fb (.inl e) (.inl ⟨0,n,fc,rfl⟩);have f3:=sg.ltE 2 rfl;refine As.heldZ (fun k=>k=sb∨k=fb) [16] (sq [0,1,2,3,4,5,6,7,8,9,10,11] (.f 12 (.f 13 (sq [14,15] (.f 16 .e))))) rfl (by kernel_rfl) (VC.fa C6 ?_);refine ld1 (v:=.slice na ds.length nc) C0 (by rw [(sg.blk 0 rfl).cell];rfl) (.inl rfl) ?_;refine VC.fa Dq (ld1 (v:=.int .i64 fD.factor) ct3 (AY sg (k:=5) rfl) (.inr rfl) (GW 7 fD.factor ((m:Int)) (nn) (AM CU (rnL (B8 fD.factor ((m:Int)) (nn))) rfl (Aq _) (by decide) (by decide) ?_)));intro zz G4 hz hs4 hb4 ha4;have sg4:=sg.skip hz ha4;have az:Agr (fun k=>k=fb) _ G4:=fun k hk=>ha4 k (by have e1:k=fb:=hk;have:zz=_:=hz;omega);refine⟨fun k hk=>by
          rcases hk with hk | hk
          ·rw [show k=sb from hk];exact(sg4.blk 0 rfl).trans (sg.blk 0 rfl).symm
          ·exact az k hk,?_⟩
         refine Hp (ys:=[B8 fD.factor ((m:Int)) (nn)]) sg4 1 CU rfl (hb4.cells (o:=0) (cs:=rnL (B8 fD.factor ((m:Int)) (nn))) fun j v hv=>by rw [UO];exact hv) (Ty.reps_one ⟨rfl,Bu (x:=7) (by unfold A9;omega),Bu hN.factor,Bu (x:=0) (by unfold A9;omega),Bu (x:=(m:Int)) (by unfold A9;omega),Bu (x:=nn) (by unfold A9;omega)⟩) rfl (fun u hu=>UQ.1 (Br _) u hu) (by simp [maxLen];omega) (by simp;omega) fun a5 c5 G5 sg5 ha5=>?_;have el:ds.length+[B8 fD.factor ((m:Int)) (nn)].length=(ds++[B8 fD.factor ((m:Int)) (nn)]).length:=by simp
         rw [el]at sg5 ⊢;refine⟨fun k hk=>by
          rcases hk with hk | hk
          ·rw [show k=sb from hk];exact(sg5.blk 0 rfl).trans (sg.blk 0 rfl).symm
          ·exact(ha5 k (by rw [show k=fb from hk];exact⟨sg4.ltE 2 rfl,f2⟩)).trans (az k hk),?_⟩
         refine VC.fa C6 ?_;refine AG sg5 0 C0 rfl (by show _<(2:Nat);decide) rfl fun G6 sg6=>?_;replace sg6:StB (Old H) H G6 (stP sb fb a5 c5 fc n (ds++[B8 fD.factor ((m:Int)) (nn)]) (fr++[fD]) [pB tRe q2 reZ]):=sg6;refine VC.fa C6 ?_;refine ld1 (v:=.slice a5 (ds++[B8 fD.factor ((m:Int)) (nn)]).length c5) C0 (by rw [(sg6.blk 0 rfl).cell];rfl) trivial ?_;have w1:IntKind.wrap .i64 (((ds++[B8 fD.factor ((m:Int)) (nn)]).length:Int) - 1)=(ds.length:Int):=by
          rw [UN,UM,w64 (by omega) (by omega)];omega
         (conv=>whnf);rw [w1];refine VC.fa Dq (DN (k:=5) (f':={fD with factor:=(ds.length:Int)}) sg6 ct3 (by decide) rfl rfl fun G7 sg7 ja=>?_);(conv=>whnf);refine⟨rfl,kk,rfl,⟨_,fs,ds++[B8 fD.factor ((m:Int)) (nn)],ws++[.rep wx ((m:Int)) (nn)],fr,{fD with factor:=(ds.length:Int)},_,_,_,_,n,GO (EW hfac hpost (by unfold DT;rw [if_neg (by omega),if_neg (by omega),if_neg (by omega)];exact hbm)),by omega,hR.add (w:=.rep wx ((m:Int)) (nn)) ⟨jx,by rw [ex1],ex2,.inr ⟨by omega,by omega,by omega,by omega,o5⟩⟩,⟨hF.place,hF.alt.more,hF.meet.more,hF.sign,hF.row.more,IxR.new hR (by show BG wx.den (AD ((m:Int))) (nn)=_;rw [ex3,hlow])⟩,hK.more,by simp only [UN,UM];omega,hlf,sg7⟩,by omega⟩
   ·have hpost:E6 (bt t i)=false:=by simpa using hpost
    rw [hpost];by_cases h124:bt t i=124
    ·have d:(((bt t i:Nat):Int)==124)=true:=by rw [h124];rfl
     (conv=>whnf);rw [d];clear d;refine Ai.mk (JC sg hN (by omega)) ?_;rintro v G2 ⟨na2,nc2,sg2⟩;(conv=>whnf);rw [w64 (x:=(i:Int)+1) (by omega) (by omega)];have hcl:=Hs ds fD;obtain⟨us,k1,k2⟩:=Ht hR hF;exact⟨rfl,i+1,rfl,⟨_,fs,_,_,fr,_,_,_,_,_,n,GO (K8 h124),by omega,k1,k2,hK.more,by omega,hlf,sg2⟩,by omega⟩
    ·have d:(((bt t i:Nat):Int)==124)=false:=DY h124;(conv=>whnf);rw [d];clear d;by_cases h38:bt t i=38
     ·have d:(((bt t i:Nat):Int)==38)=true:=by rw [h38];rfl
      (conv=>whnf);rw [d];clear d;refine Ai.mk (Lc sg hN (by omega)) ?_;rintro v G2 ⟨na2,nc2,sg2⟩;have hcl:=GU ds fD;refine As.heldZ (fun k=>k=sb) [13] (sq [0,1,2,3,4,5,6,7,8,9,10,11,12] (.f 13 .e)) rfl (by kernel_rfl) (VC.fa Bs ?_);refine ld1 (v:=.slice (some ⟨fb,0,none⟩) n fc) D2 (by rw [(sg2.blk 0 rfl).cell];rfl) rfl ?_;refine VC.fa Bs ?_;refine ld1 (v:=.slice (some ⟨fb,0,none⟩) n fc) D2 (by rw [(sg2.blk 0 rfl).cell];rfl) rfl ?_;(conv=>whnf);rw [w64 (x:=(n:Int) - 1) (by omega) (by omega)];refine ixE (j:=fr.length) Hj sg2 2 rfl (by simp) (by omega) (VC.fa Lr (DN (k:=3) (f':={(Cz ds fD).2 with sign:=bt t i}) sg2 ct5 (by decide) rfl rfl fun G3 sg3 ja=>?_));(conv=>whnf);rw [w64 (x:=(i:Int)+1) (by omega) (by omega)];obtain⟨us,k1,k2⟩:=I1 hR hF;exact⟨rfl,i+1,rfl,⟨_,fs,_,_,fr,{(Cz ds fD).2 with sign:=bt t i},_,_,_,_,n,GO (FT (.inl h38)),by omega,k1,⟨k2.place,k2.alt,k2.meet,rfl,k2.row,k2.factor⟩,hK.more,by omega,hlf,sg3⟩,by omega⟩
     ·have d:(((bt t i:Nat):Int)==38)=false:=DY h38;(conv=>whnf);rw [d];clear d;by_cases h45:bt t i=45
      ·have d:(((bt t i:Nat):Int)==45)=true:=by rw [h45];rfl
       (conv=>whnf);rw [d];clear d;refine Ai.mk (Lc sg hN (by omega)) ?_;rintro v G2 ⟨na2,nc2,sg2⟩;have hcl:=GU ds fD;refine As.heldZ (fun k=>k=sb) [13] (sq [0,1,2,3,4,5,6,7,8,9,10,11,12] (.f 13 .e)) rfl (by kernel_rfl) (VC.fa Bs ?_);refine ld1 (v:=.slice (some ⟨fb,0,none⟩) n fc) D2 (by rw [(sg2.blk 0 rfl).cell];rfl) rfl ?_;refine VC.fa Bs ?_;refine ld1 (v:=.slice (some ⟨fb,0,none⟩) n fc) D2 (by rw [(sg2.blk 0 rfl).cell];rfl) rfl ?_;(conv=>whnf);rw [w64 (x:=(n:Int) - 1) (by omega) (by omega)];refine ixE (j:=fr.length) Hj sg2 2 rfl (by simp) (by omega) (VC.fa Lr (DN (k:=3) (f':={(Cz ds fD).2 with sign:=bt t i}) sg2 ct5 (by decide) rfl rfl fun G3 sg3 ja=>?_));(conv=>whnf);rw [w64 (x:=(i:Int)+1) (by omega) (by omega)];obtain⟨us,k1,k2⟩:=I1 hR hF;exact⟨rfl,i+1,rfl,⟨_,fs,_,_,fr,{(Cz ds fD).2 with sign:=bt t i},_,_,_,_,n,GO (FT (.inr h45)),by omega,k1,⟨k2.place,k2.alt,k2.meet,rfl,k2.row,k2.factor⟩,hK.more,by omega,hlf,sg3⟩,by omega⟩
      ·have d:(((bt t i:Nat):Int)==45)=false:=DY h45;(conv=>whnf);rw [d];clear d;by_cases h41:bt t i=41
       ·have d:(((bt t i:Nat):Int)==41)=true:=by rw [h41];rfl
        (conv=>whnf);rw [d];clear d;refine VC.fa Bs ?_;refine ld1 (v:=.slice (some ⟨fb,0,none⟩) n fc) D2 (by rw [(sg.blk 0 rfl).cell];rfl) trivial ?_;cases hK with
        | nil=>
          have hn1:n=1:=by rw [hlen];rfl
          have d3:((n:Int)==1)=true:=by rw [hn1];rfl
          (conv=>whnf);rw [d3];refine Av Tryz.underlying32 rfl _ HJ reZ rfl (Ay (cs:=reZ) sg 3 rfl rfl (UL _) rfl fun Gz sz=>?_);have ez:Ac reZ 0 reZ=reZ:=A8 rfl;rw [ez]at sz;refine ldN (cs:=reZ) Dd (GA (sz.blk 3 rfl)) trivial (⟨sz.old,?_⟩);unfold Gd;rw [hpM,ER (Im h41)];rfl
        | @cons fr1 fs1 g ga hK1 hG=>
          have hn2:n=fr1.length+1+1:=by rw [hlen];simp
          have d3:((n:Int)==1)=false:=beq_eq_false_iff_ne.2 (by omega);(conv=>whnf);rw [d3];refine Ai.mk (JC sg hN (by omega)) ?_;rintro v G2 ⟨na2,nc2,sg2⟩;have hcl:=Hs ds fD;refine As.lex rfl (by kernel_rfl) (VC.fa Bs ?_);refine ld1 (v:=.slice (some ⟨fb,0,none⟩) n fc) D2 (by rw [(sg2.blk 0 rfl).cell];rfl) trivial ?_;refine VC.fa Bs ?_;refine ld1 (v:=.slice (some ⟨fb,0,none⟩) n fc) D2 (by rw [(sg2.blk 0 rfl).cell];rfl) trivial ?_;(conv=>whnf);rw [w64 (x:=(n:Int) - 1) (by omega) (by omega)];refine ixE (j:=(fr1++[g]).length) Hj sg2 2 rfl (by simp) (by simp;omega) ?_;refine VC.fa Iz (ld1 (v:=.int .i64 (D1 ds fD).2.alt) ct3 (AY sg2 (k:=1) rfl) trivial (As.heldZ (fun k=>k=sb) [14] (sq [0,1,2,3,4,5,6,7,8,9,10,11,12,13] (.f 14 .e)) rfl (by kernel_rfl) (VC.fa Bs ?_)));refine ld1 (v:=.slice (some ⟨fb,0,none⟩) n fc) D2 (by rw [(sg2.blk 0 rfl).cell];rfl) rfl ?_;refine VC.fa Bs ?_;refine ld1 (v:=.slice (some ⟨fb,0,none⟩) n fc) D2 (by rw [(sg2.blk 0 rfl).cell];rfl) rfl ?_;have hcap:=sg2.capT 2 rfl;simp only [UN,UM]at hcap;(conv=>whnf);rw [w64 (x:=(n:Int) - 1) (by omega) (by omega)];rw [show(n:Int) - 1=((fr1.length+1:Nat):Int) by omega];refine S3 Hj (by omega) (by omega) (VC.fa Bs ?_);have sg3:=sg2.popT 2 rfl;refine AG sg3 0 D2 rfl (by show _<(2:Nat);decide) rfl fun G4 sg4=>?_;rw [Vi]at sg4;replace sg4:StB (Old H) H G4 (stP sb fb na2 nc2 fc (fr1.length+1) (D1 ds fD).1 (fr1++[g]) [pB tRe q2 reZ]):=by
           have e:(fr1++[g]).length=fr1.length+1:=by simp
           have:=sg4;simp only [UN,UM]at this;exact this
          refine As.heldZ (fun k=>k=sb) [13] (sq [0,1,2,3,4,5,6,7,8,9,10,11,12] (.f 13 .e)) rfl (by kernel_rfl) (VC.fa Bs ?_);refine ld1 (v:=.slice (some ⟨fb,0,none⟩) (fr1.length+1) fc) D2 (by rw [(sg4.blk 0 rfl).cell];rfl) rfl ?_;refine VC.fa Bs ?_;refine ld1 (v:=.slice (some ⟨fb,0,none⟩) (fr1.length+1) fc) D2 (by rw [(sg4.blk 0 rfl).cell];rfl) rfl ?_;(conv=>whnf);rw [w64 (x:=((fr1.length+1:Nat):Int) - 1) (by omega) (by omega)];refine ixE (j:=(fr1).length) Hj sg4 2 rfl (by simp) (by omega) (VC.fa Dq (DN (k:=5) (f':={g with factor:=(D1 ds fD).2.alt}) sg4 ct3 (by decide) rfl rfl fun G5 sg5 ja=>?_));(conv=>whnf);rw [w64 (x:=(i:Int)+1) (by omega) (by omega)];obtain⟨us,k1,k2⟩:=Ht hR hF;exact⟨rfl,i+1,rfl,⟨_,fs1,_,_,fr1,{g with factor:=(D1 ds fD).2.alt},_,_,_,_,_,GO (IJ h41),by omega,k1,⟨hG.place,hG.alt.more,hG.meet.more,hG.sign,hG.row.more,k2.alt⟩,hK1.more,by omega,by simp only [Vc]at hlf;omega,sg5⟩,by omega⟩
       ·have d:(((bt t i:Nat):Int)==41)=false:=DY h41;(conv=>whnf);rw [d];clear d;refine Ai.mk (Kx sg hN (by omega)) ?_;rintro v G2 ⟨na2,nc2,sg2⟩;have hcl:=Fo ds fD;obtain⟨us,k1,k2⟩:=IP hR hF;have hkm:=hK.more (us:=us);have hN2:=GM (ds:=ds) hN (by omega);obtain⟨ds2,f2,hq⟩:∃ds2 f2,AT ds fD=(ds2,f2):=⟨_,_,rfl⟩;rw [hq]at sg2 k1 k2 hcl hN2;replace sg2:StB (Old H) H G2 (stP sb fb na2 nc2 fc n ds2 (fr++[f2]) [pB tRe q2 reZ]):=sg2;replace k1:Raw ds2 (ws++us):=k1;replace k2:FrR (ws++us) f2 (Aw f):=k2;replace hcl:ds2.length≤ds.length+1:=hcl;replace hN2:FrN f2:=hN2;by_cases h40:bt t i=40
        ·have d:(((bt t i:Nat):Int)==40)=true:=by rw [h40];rfl
         (conv=>whnf);rw [d];clear d;refine VC.fa Bs ?_;refine ld1 (v:=.slice (some ⟨fb,0,none⟩) n fc) D2 (by rw [(sg2.blk 0 rfl).cell];rfl) trivial ?_;by_cases hdeep:1000≤fs.length
         ·have d3:decide (1000<(n:Int))=true:=decide_eq_true (by omega);(conv=>whnf);rw [d3];refine Av Tryz.underlying32 rfl _ HJ reZ rfl (Ay (cs:=reZ) sg2 3 rfl rfl (UL _) rfl fun Gz sz=>?_);have ez:Ac reZ 0 reZ=reZ:=A8 rfl;rw [ez]at sz;refine ldN (cs:=reZ) Dd (GA (sz.blk 3 rfl)) trivial (⟨sz.old,?_⟩);unfold Gd;rw [hpM,ER (JP h40 hdeep)];rfl
         ·have d3:decide (1000<(n:Int))=false:=decide_eq_false (by omega);(conv=>whnf);rw [d3];refine As.heldZ (fun k=>k=sb) [11] (sq [0,1,2,3,4,5] (.f 6 (.f 7 (.f 8 (sq [9,10] (.f 11 .e)))))) rfl (by kernel_rfl) (VC.fa Bs ?_);refine ld1 (v:=.slice (some ⟨fb,0,none⟩) n fc) D2 (by rw [(sg2.blk 0 rfl).cell];rfl) rfl ?_;refine Ai.mk (Qp (i:Int) G2) ?_;rintro _ G3 ⟨rfl,ha3⟩;have sg3:=sg2.call ha3;refine⟨fun k hk=>by rw [show k=sb from hk];exact(sg3.blk 0 rfl).trans (sg2.blk 0 rfl).symm,?_⟩;refine AM Hj (frO (i:Int)) rfl rfl (by decide) (by decide) ?_;intro zz G4 hz hs4 hb4 ha4;have sg4:=sg3.skip hz ha4;refine⟨fun k hk=>by rw [show k=sb from hk];exact(sg4.blk 0 rfl).trans (sg2.blk 0 rfl).symm,?_⟩;refine KT (ys:=[(⟨i,-1,-1,0,-1,-1⟩:FrD)]) (ds:=frO (i:Int)) sg4 2 Hj rfl (hb4.cells (o:=0) (cs:=frO (i:Int)) fun j v hv=>by rw [UO];exact hv) (Ty.reps_one (T:=tFr) rfl) rfl (fun u hu=>UQ.1 (Oh ⟨i,-1,-1,0,-1,-1⟩) u hu) (by simp;omega) (by decide) fun a5 c5 G5 sg5 ha5=>?_;refine⟨fun k hk=>by rw [show k=sb from hk];exact(sg5.blk 0 rfl).trans (sg2.blk 0 rfl).symm,?_⟩;obtain⟨fb5,rfl⟩:=sg5.adr 2 rfl (by simp);refine VC.fa Bs ?_;refine AG sg5 0 D2 rfl (by show _<(2:Nat);decide) rfl fun G6 sg6=>?_;replace sg6:StB (Old H) H G6 (stP sb fb5 na2 nc2 c5 ((fr++[f2]).length+1) ds2 ((fr++[f2])++[(⟨i,-1,-1,0,-1,-1⟩:FrD)]) [pB tRe q2 reZ]):=sg6;(conv=>whnf);rw [w64 (x:=(i:Int)+1) (by omega) (by omega)];exact⟨rfl,i+1,rfl,⟨_,Aw f::fs,ds2,ws++us,fr++[f2],_,_,_,_,_,_,GO (JQ h40 (by omega)),by omega,k1,Qr _ _,hkm.cons k2,by omega,by simp only [Vc];omega,sg6⟩,by omega⟩
        ·have d:(((bt t i:Nat):Int)==40)=false:=DY h40;(conv=>whnf);rw [d];clear d;refine Ai.mk (Pj (i:=i) (by omega) hit) ?_;rintro v G3 ⟨hag3,hRd⟩;have sg3:=sg2.call hag3;have hfb:JF (bt t i):=⟨h124,h38,h45,h41,hpost⟩;unfold Dn at hRd;cases hrs:Bm t i with
         | inl e=>
           rw [hrs]at hRd;replace hRd:v= .tuple #[Fe,.int .i64 0,.int .i64 10,.int .i64 (e:Int)]:=hRd;subst hRd;refine Ag Fe (Ar 0#256) Dz rfl ?_;intro q15 G4 hq4 hs4 hb4 ha4;have sg4:=sg3.skip hq4 ha4;have sg4':=sg3.box hq4 hs4 hb4 ha4;refine Ay (cs:=Ar 0#256) sg4' 4 (szD 0) rfl (Nat.le_of_eq (UO _)) (onD 0) fun G5 sg5=>?_;replace sg5:StB (Old H) H G5 (stP sb fb na2 nc2 fc n ds2 (fr++[f2]) [pB tRe q2 reZ]):=sg5.subl (List.Sublist.cons_cons _ (List.Sublist.cons_cons _ (List.Sublist.cons_cons _ (List.Sublist.cons_cons _ (Vk _)))));(conv=>whnf);refine Av Tryz.underlying32 rfl _ HJ reZ rfl (Ay (cs:=reZ) sg5 3 rfl rfl (UL _) rfl fun Gz sz=>?_);have ez:Ac reZ 0 reZ=reZ:=A8 rfl;rw [ez]at sz;refine ldN (cs:=reZ) Dd (GA (sz.blk 3 rfl)) trivial (⟨sz.old,?_⟩);unfold Gd;rw [hpM,ER (JO hfb h40 hrs)];rfl
         | inr y=>
           obtain⟨x,kk⟩:=y;rw [hrs]at hRd;replace hRd:v= .tuple #[.agg (Ar x).toArray,.int .i64 (kk:Int),.int .i64 0,.int .i64 0]:=hRd;subst hRd;have hok:=HK hrs;refine Ag Fe (Ar 0#256) Dz rfl ?_;intro q15 G4 hq4 hs4 hb4 ha4;have sg4:=sg3.box hq4 hs4 hb4 ha4;refine Ay (cs:=Ar x) sg4 4 (szD x) rfl (by rw [Ap,Ap];decide) (onD x) fun G5 sg5=>?_;rw [A8 (show(Ar x).length=(Ar 0#256).length by rw [Ap,Ap])]at sg5;replace sg5:StB (Old H) H G5 (stP sb fb na2 nc2 fc n ds2 (fr++[f2]) [pB tRe q2 reZ,pB 92 q15 (Ar x)]):=sg5;have hx5:Blk G5 q15 92 (Ar x):=sg5.blk 4 rfl;refine As.heldZ (fun k=>k=sb∨k=q15) [11] (sq [0,1,2,3,4,5,6] (.f 7 (.f 8 (sq [9,10] (.f 11 .e))))) rfl (by kernel_rfl) (VC.fa C6 ?_);refine ld1 (v:=.slice na2 ds2.length nc2) C0 (by rw [(sg5.blk 0 rfl).cell];rfl) (.inl rfl) ?_;refine ldN (cs:=Ar x) (agD x) (BL hx5) (.inr rfl) (I9 1 x (AM CU (rnL (De x)) rfl (Aq _) (by decide) (by decide) ?_));intro zz G6 hz hs6 hb6 ha6;have sg6:=sg5.skip hz ha6;refine⟨fun k hk=>by
            rcases hk with hk | hk
            ·rw [show k=sb from hk];exact(sg6.blk 0 rfl).trans (sg5.blk 0 rfl).symm
            ·rw [show k=q15 from hk];exact(sg6.blk 4 rfl).trans hx5.symm,?_⟩
           refine Hp (ys:=[De x]) sg6 1 CU rfl (hb6.cells (o:=0) (cs:=rnL (De x)) fun j v hv=>by rw [UO];exact hv) (Ty.reps_one ⟨rfl,Bu (x:=1) (by unfold A9;omega),Bu (x:=0) (by unfold A9;omega),Bu (x:=0) (by unfold A9;omega),Bu (x:=0) (by unfold A9;omega),Bu (x:=0) (by unfold A9;omega)⟩) rfl (fun u hu=>UQ.1 (Br _) u hu) (by simp [maxLen];omega) (by simp;omega) fun a7 c7 G7 sg7 ha7=>?_;have el:ds2.length+[De x].length=(ds2++[De x]).length:=by simp
           rw [el]at sg7 ⊢;refine⟨fun k hk=>by
            rcases hk with hk | hk
            ·rw [show k=sb from hk];exact(sg7.blk 0 rfl).trans (sg5.blk 0 rfl).symm
            ·rw [show k=q15 from hk];exact(sg7.blk 4 rfl).trans hx5.symm,?_⟩
           refine VC.fa C6 ?_;refine AG sg7 0 C0 rfl (by show _<(2:Nat);decide) rfl fun G8 sg8=>?_;replace sg8:StB (Old H) H G8 (stP sb fb a7 c7 fc n (ds2++[De x]) (fr++[f2]) [pB tRe q2 reZ,pB 92 q15 (Ar x)]):=sg8;have w1:IntKind.wrap .i64 (((ds2++[De x]).length:Int) - 1)=(ds2.length:Int):=by
            rw [UN,UM,w64 (by omega) (by omega)];omega
           refine As.heldZ (fun k=>k=sb) [18] (sq [0,1,2,3,4,5,6,7,8,9,10,11,12,13,14,15,16,17] (.f 18 .e)) rfl (by kernel_rfl) (VC.fa Bs ?_);refine ld1 (v:=.slice (some ⟨fb,0,none⟩) n fc) D2 (by rw [(sg8.blk 0 rfl).cell];rfl) rfl ?_;refine VC.fa Bs ?_;refine ld1 (v:=.slice (some ⟨fb,0,none⟩) n fc) D2 (by rw [(sg8.blk 0 rfl).cell];rfl) rfl ?_;(conv=>whnf);rw [w64 (x:=(n:Int) - 1) (by omega) (by omega)];refine VC.fa C6 ?_;refine ld1 (v:=.slice a7 (ds2++[De x]).length c7) C0 (by rw [(sg8.blk 0 rfl).cell];rfl) rfl ?_;(conv=>whnf);rw [w1];refine ixE (j:=fr.length) Hj sg8 2 rfl (by simp) (by omega) (VC.fa Dq (DN (k:=5) (f':={f2 with factor:=(ds2.length:Int)}) sg8 ct3 (by decide) rfl rfl fun G9 sg9 ja=>?_));(conv=>whnf);replace sg9:StB (Old H) H G9 (stP sb fb a7 c7 fc n (ds2++[De x]) (fr++[{f2 with factor:=(ds2.length:Int)}]) [pB tRe q2 reZ]):=sg9.subl (List.Sublist.cons_cons _ (List.Sublist.cons_cons _ (List.Sublist.cons_cons _ (List.Sublist.cons_cons _ (Vk _)))));exact⟨rfl,kk,rfl,⟨_,fs,ds2++[De x],ws++us++[.cls x],fr,{f2 with factor:=(ds2.length:Int)},_,_,_,_,n,GO (K9 hfb h40 hrs),by omega,k1.add (w:=.cls x) rfl,⟨k2.place,k2.alt.more,k2.meet.more,k2.sign,k2.row.more,IxR.new k1 rfl⟩,hkm.more,by simp only [UN,UM];omega,hlf,sg9⟩,by omega⟩
  ·skip
   obtain rfl:i=t.size:=by omega
   have hend:BC t ⟨0,DJ (-1),[]⟩=Pf ⟨t.size,f,fs⟩:=hrun.trans (JN (by show¬t.size<t.size;omega));refine VC.fa Bs ?_;refine ld1 (v:=.slice (some ⟨fb,0,none⟩) n fc) D2 (by rw [(sg.blk 0 rfl).cell];rfl) trivial ?_;cases hK with
   | @cons fr1 fs1 g ga hK1 hG=>
     have hn2:n=fr1.length+1+1:=by rw [hlen];simp
     have d3:decide (1<(n:Int))=true:=decide_eq_true (by omega);have ne1:sb≠q2:=(sg.blk 0 rfl).ne (sg.blk 3 rfl) (by decide);have ne2:fb≠q2:=fun e=>sg.apart2 (i:=2) (j:=3) rfl rfl (by decide) fb (.inl ⟨0,n,fc,rfl⟩) e;(conv=>whnf);rw [d3];refine As.held (fun k=>k=sb∨k=fb) 17 (sq [0,1,2,3,4,5,6,7,8,9,10,11,12,13] (.f 14 (sq [15,16] .e))) rfl (by kernel_rfl) (Av Tryz.underlying32 rfl _ HJ reZ rfl (VC.fa Bs ?_));refine ld1 (v:=.slice (some ⟨fb,0,none⟩) n fc) D2 (by rw [(sg.blk 0 rfl).cell];rfl) (.inl rfl) ?_;refine VC.fa Bs ?_;refine ld1 (v:=.slice (some ⟨fb,0,none⟩) n fc) D2 (by rw [(sg.blk 0 rfl).cell];rfl) (.inl rfl) ?_;(conv=>whnf);rw [w64 (x:=(n:Int) - 1) (by omega) (by omega)];refine ixE (j:=(fr1++[g]).length) Hj sg 2 rfl (by simp) (by simp;omega) ?_;refine VC.fa SG (ld1 (v:=.int .i64 fD.place) ct3 (AY sg (k:=0) rfl) (.inr rfl) (Be (cs:=reZ) sg 3 rfl rfl (UL _) rfl fun Gz sz jz jq=>?_));have ez:Ac reZ 0 reZ=reZ:=A8 rfl;rw [ez]at sz;refine⟨jz.mono fun k hk=>by
      rcases hk with hk | hk
      ·rw [show k=sb from hk];exact ne1
      ·rw [show k=fb from hk];exact ne2,?_⟩
     refine ldN (cs:=reZ) Dd (GA (sz.blk 3 rfl)) trivial (⟨sz.old,?_⟩);unfold Gd;rw [hpM,hend];show _=Value.tuple #[.agg reZ.toArray,.int .i64 21,.int .i64 f.place];rw [←hF.place];rfl
   | nil=>
     have hn1:n=1:=by rw [hlen];rfl
     have d3:decide (1<(n:Int))=false:=decide_eq_false (by omega);(conv=>whnf);rw [d3];refine Ai.mk (JC sg hN (by omega)) ?_;rintro v G2 ⟨na2,nc2,sg2⟩;have hcl:=Hs ds fD;obtain⟨us,k1,k2⟩:=Ht hR hF;have kalt:=k2.alt;have hca:(Cl f).alt=some ((Cl f).alt.getD .eps):=rfl;obtain⟨r,hr⟩:∃r,r=(Cl f).alt.getD .eps:=⟨_,rfl⟩;rw [hca,←hr]at kalt;obtain⟨jr,wr,er1,er2,er3⟩:=kalt;have hfin:BC t ⟨0,DJ (-1),[]⟩=(if 2000<r.nodes then .inl (24,0)else .inr r):=by
      rw [hend,hr];rfl
     obtain⟨ds2,f2,hq⟩:∃ds2 f2,D1 ds fD=(ds2,f2):=⟨_,_,rfl⟩;rw [hq]at sg2 k1 k2 hcl er1;replace sg2:StB (Old H) H G2 (stP sb fb na2 nc2 fc n ds2 ([]++[f2]) [pB tRe q2 reZ]):=sg2;replace k1:Raw ds2 (ws++us):=k1;replace hcl:ds2.length≤ds.length+4:=hcl;replace er1:f2.alt=(jr:Int):=er1;have hwl:=k1.len;have hjl:=(UV.1 er2).1;refine VC.fa Bs ?_;refine ld1 (v:=.slice (some ⟨fb,0,none⟩) n fc) D2 (by rw [(sg2.blk 0 rfl).cell];rfl) trivial ?_;refine ixE (j:=([]:List FrD).length) Hj sg2 2 rfl (by simp) rfl (VC.fa Iz ?_);refine ld1 (v:=.int .i64 (jr:Int)) ct3 (by rw [←er1];exact AY sg2 (k:=1) rfl) trivial ?_;refine VC.fa C6 ?_;refine ld1 (v:=.slice na2 ds2.length nc2) C0 (by rw [(sg2.blk 0 rfl).cell];rfl) trivial ?_;refine Ai.mk (RM (S:=Old G2) (fun k hk=>hk) k1 (by omega) (sg2.view 1 rfl)) ?_;rintro _ G3 ⟨bz,rfl,stz⟩;have sg3:=sg2.call stz.old;have hszg:=LF (j:=(ws++us).length) er2 hjl;refine ixO (j:=jr) (x:=szI wr) BU stz 0 rfl hszg rfl fun b9 o9 cs9 hO9 hc9 hr9=>?_;obtain⟨rfl,-⟩:=hr9;refine ld1 (v:=.int .i64 (szI wr)) ct3 hc9.one trivial ?_;have hszr:szI wr=((szR r:Nat):Int):=by unfold szI;rw [er3]
     rw [hszr];by_cases hn:2000<r.nodes
     ·have d4:decide (2000<((szR r:Nat):Int))=true:=decide_eq_true (by unfold szR;omega);rw [if_pos hn]at hfin;(conv=>whnf);rw [d4];refine Av Tryz.underlying32 rfl _ HJ reZ rfl (Ay (cs:=reZ) sg3 3 rfl rfl (UL _) rfl fun Gz sz=>?_);have ez:Ac reZ 0 reZ=reZ:=A8 rfl;rw [ez]at sz;refine ldN (cs:=reZ) Dd (GA (sz.blk 3 rfl)) trivial (⟨sz.old,?_⟩);unfold Gd;rw [hpM,hfin];rfl
     ·have d4:decide (2000<((szR r:Nat):Int))=false:=decide_eq_false (by unfold szR;omega);rw [if_neg hn]at hfin;(conv=>whnf);rw [d4];refine Ag _ reZ HJ rfl ?_;intro q20 G4 hq4 hs4 hb4 ha4;have sq4:=((St.nil G3).box hq4 hs4 hb4 ha4).nils tRn 94;replace sq4:StB (Old G3) G3 G4 (reP q20 none 0 [] 0 []):=sq4;have sg4:=sg3.call sq4.old;refine VC.fa C6 ?_;refine ld1 (v:=.slice na2 ds2.length nc2) C0 (by rw [(sg4.blk 0 rfl).cell];rfl) trivial ?_;refine Ai.mk (SK wr (Old G3) G3 G4 q20 0 none [] 0 [] na2 nc2 jr ds2 (ws++us) k1 (sg3.view 1 rfl) (fun k hk=>hk) er2 (by rw [er3];simp;omega) sq4) ?_;rintro _ G5 ⟨ms,a5,c5,hm5,hs5,rfl,ht5,sq5⟩;rw [er3]at hm5 ht5 hs5;rw [Vp]at ht5 sq5;refine VC.fa Lh ?_;refine AG sq5 0 ct3 rfl (by show _<(2:Nat);decide) rfl fun G6 sq6=>?_;rw [show([]:List RnM).length+ms.length - 1=ms.length - 1 by simp]at ht5 sq6;replace sq6:StB (Old G3) G3 G6 (reP q20 a5 c5 ms ((ms.length - 1:Nat):Int) []):=sq6;have sg6:=sg3.call sq6.old;have lds:Bo G6 q20 0 (reL (.slice a5 ms.length c5) ((ms.length - 1:Nat):Int)):=(sq6.blk 0 rfl).cells fun j v hv=>by rw [UO];exact hv
      refine ldN (cs:=reL (.slice a5 ms.length c5) ((ms.length - 1:Nat):Int)) Dd lds trivial (Be (cs:=reL (.slice a5 ms.length c5) ((ms.length - 1:Nat):Int)) sg6 3 rfl rfl (UL _) rfl fun G7 sg7 ja7 js7=>?_);rw [A8 (show(reL (.slice a5 ms.length c5) ((ms.length - 1:Nat):Int)).length=reZ.length from rfl)]at sg7;have ldr:Bo G7 q2 0 (reL (.slice a5 ms.length c5) ((ms.length - 1:Nat):Int)):=(sg7.blk 3 rfl).cells fun j v hv=>by rw [UO];exact hv
      refine ldN (cs:=reL (.slice a5 ms.length c5) ((ms.length - 1:Nat):Int)) Dd ldr trivial ?_;have ow:=St.own (H0:=G3) sq6 1 rfl;have q2l:q2<G3.size:=(sg3.blk 3 rfl).lt;refine⟨sg7.old,?_⟩;unfold Gd;rw [hpM,hfin];refine⟨ms,a5,c5,ms.length - 1,rfl,ht5,hm5,hs5,?_⟩;refine(ow.agr ja7 (fun b hb=>by have:=(ow.lt hb).1;omega) (fun b hb=>hb.elim)).lower ?_;exact sg3.size
end Go.Proofs.YtlnmhfhdjnenoaaGreatDoor
namespace Go.Proofs.YtlnmhfhdjnenoaaGreatDoor
open Go.VC
end Go.Proofs.YtlnmhfhdjnenoaaGreatDoor
namespace Go.Proofs.YtlnmhfhdjnenoaaGreatDoor
open Go.VC Go.Lib
theorem Rv:(Tryz.prog.info? 27).bind (·.zero)=some (.agg (fiL 0 0).toArray):=by kernel_rfl
theorem Sw{H:Aa}{b c:Nat}{p:Int}(h:Blk H b 27 (fiL c p)):Bo H b 0 (fiL c p):=h.cells (fun j v hv=>by rw [UO];exact hv)
def wtJ(k:Nat):Bool:=Nat.beq k 10
def wtA(N:NfM)(l:List (ReM×Nat)):Int×Nat:=if 0<l.length∧Bh N=false then(2,1)else(0,l.length)
noncomputable abbrev wtP(nb rb q4 q5:Nat)(wa:Option Addr)(wc:Nat)(N:NfM)(q:Int)(ns:List RnM)(na:Option Addr)(nc root:Nat)(ma:Option Addr)(mc:Nat)(l:List (ReM×Nat)):List Pc:=
 [pB 53 nb (nfL N (.slice wa N.edges.length wc)),pB 3 rb [.int .i64 q],pB 27 q4 (fiL 0 0),pS tRn 94 na ns.length nc ns,pB 32 q5 (reL (.slice na ns.length nc) (root:Int)),pS tIk 3 ma l.length mc (AS l)]
theorem Kc{ns:List RnM}{r:ReM}{i:Nat}{l:List (ReM×Nat)}(h:CV ns r i l):∀x∈l,x.1.nodes≤r.nodes:=by
 induction h with
 | eps=>intro x hx;cases hx
 | cls=>intro x hx;cases hx
 | cat _ _ _ _ _ ih1 ih2 | alt _ _ _ _ _ ih1 ih2=>
   intro x hx;simp only [ReM.nodes];rcases List.mem_append.1 hx with hx | hx
   ·have:=ih1 x hx;omega
   ·have:=ih2 x hx;omega
 | star _ _ _ ih=>intro x hx;have:=ih x hx;simp only [ReM.nodes];omega
 | and_ _=>intro x hx;rw [Vh.1 hx];exact UL _
 | minus _=>intro x hx;rw [Vh.1 hx];exact UL _
theorem Rg{N:NfM}{q:Int}{k:Nat}(h:(CB N q k).1=0):(CB N q k).2=k:=by
 unfold CB at*;by_cases h1:0<q∧q≤((if 0<k∧Bh N=false then 1 else k:Nat):Int)
 ·rw [if_pos h1]at h;cases h
 ·rw [if_neg h1]at h ⊢;by_cases h2:0<k∧Bh N=false
  ·rw [if_pos h2]at h;cases h
  ·rw [if_neg h2]
theorem Qj(N:NfM):∀(l:List (ReM×Nat)),∀x∈l,Sh (l.map fun z=>(z.2,N)) x.2 N:=by
 intro l
 induction l with
 | nil=>intro x hx;cases hx
 | cons z l ih=>
   intro x hx;by_cases hz:z.2=x.2
   ·exact⟨0,by rw [←hz];rfl,fun t' y ht=>absurd ht (Nat.not_lt_zero _)⟩
   ·have hx2:x∈l:=by
     rcases List.mem_cons.1 hx with rfl | h
     ·exact absurd rfl hz
     ·exact h
    obtain⟨t,h1,h2⟩:=ih x hx2;refine⟨t+1,h1,fun t' y ht hy=>?_⟩;cases t' with
    | zero=>
      have hy:(z.2,N)=y:=by simpa using hy
      rw [←hy];exact hz
    | succ t'=>exact h2 t' y (by omega) (by simpa using hy)
theorem Sd{N:NfM}{l:List (ReM×Nat)}(h:l=[]∨Bh N=true)(hl:N.edges.length≤33554432):FF (fun _=>N) (l.map fun z=>(z.2,N)) l:=by
 intro x hx;refine⟨Qj N l x hx,?_,hl⟩;rcases h with rfl | h
 ·cases hx
 ·exact h
theorem IV(s:ByteArray)(v0:Value)(N:NfM)(q:Int)(S:Nat→Prop)(H:Aa)(hS:∀k,S k→k<H.size)(hN:NfV S H v0 N)(hE:DP H):
  Bv Tryz.prog 5 #[.string s,v0,.int .i64 q] H (.bool true):=by
 have hNr:=hN.1;have hNl:=hN.2.1;refine Ao.of_vcJ wtJ Tryz.func5 rfl (Tryz.call5 _) (HF hN fun wa wc he hw1=>?_);subst he;intro nb Ha hnb hsa hba haa;have sta:=(St.nil H).box hnb hsa hba haa;refine BM [.int .i64 q] rfl ?_;intro rb Hb hrb hsb hbb hab;have st0:=sta.box hrb hsb hbb hab;refine Af (NA Hb) fun H1 ha1=>?_;have st1:=st0.call ha1;clear sta st0;refine Ai.mk (R9 (t:=s) (Ef hE hE.2 st1.old)) ?_;rintro v H2 ⟨ha2,hPa⟩;have st2:=st1.call ha2;have hOk:=K6 s;unfold Jy at hPa;cases hpm:DK s with
 | inl e=>
   obtain⟨c,p⟩:=e;rw [hpm]at hPa hOk;obtain⟨k1,k2,k3,k4⟩:S4 s c p:=hOk;replace hPa:v= .tuple #[.nilIface,.agg (fiL c p).toArray]:=hPa;subst hPa;refine Ag (.agg (fiL 0 0).toArray) (fiL 0 0) Rv rfl ?_;intro q4 H3 hq3 hs3 hb3 ha3;have st3:=st2.box hq3 hs3 hb3 ha3;refine Ay (cs:=fiL c p) st3 2 rfl rfl (UL _) rfl fun H4 st4=>?_;have e4:Ac (fiL 0 0) 0 (fiL c p)=fiL c p:=A8 rfl;rw [e4]at st4;refine Ai.mk (Mf s H4) ?_;rintro v5 H5 ⟨ha5,hPd⟩;have st5:=st4.call ha5;unfold Gd at hPd;rw [hpm]at hPd;replace hPd:v5= .tuple #[.agg reZ.toArray,.int .i64 (c:Int),.int .i64 p]:=hPd;subst hPd;refine Ag _ reZ HJ rfl ?_;intro q5 H6 hq6 hs6 hb6 ha6;have st6:=st5.box hq6 hs6 hb6 ha6;refine Ay (cs:=reZ) st6 3 rfl rfl (UL _) rfl fun H7 st7=>(ldN (cs:=fiL c p) J7 (Sw (st7.blk 2 rfl)) trivial (Av Tryz.underlying27 rfl _ Rv (fiL 0 0) rfl ?_));have hple:=Pe hpm;have hpr:inK .i64 p:=Bu (by unfold A9;omega);refine Sq (c:=c) (p:=p) (c':=0) (p':=0) (by omega) hpr (by decide) (BB (x:=0) (by decide)) ?_;rw [decide_eq_false (show¬(c=0∧p=0)from fun h=>k1 h.1)];have d1:((c:Int)==0)=false:=beq_eq_false_iff_ne.2 (by omega);have d2:((c:Int) != 0)=true:=bne_iff_ne.2 (by omega);(conv=>whnf);rw [d1];refine J9 Tryz.underlying4 ?_;(conv=>whnf);rw [d2];(conv=>whnf);exact⟨rfl,st7.old⟩
 | inr r=>
   rw [hpm]at hPa hOk;have hn:r.nodes≤2000:=hOk;replace hPa:v= .tuple #[Ad r,.agg (fiL 0 0).toArray]:=hPa;subst hPa;obtain⟨T1,v1,e1⟩:=F4 r;refine Ag (.agg (fiL 0 0).toArray) (fiL 0 0) Rv rfl ?_;intro q4 H3 hq3 hs3 hb3 ha3;have st3:=st2.box hq3 hs3 hb3 ha3;refine Ay (cs:=fiL 0 0) st3 2 rfl rfl (UL _) rfl fun H4 st4=>?_;have e4:Ac (fiL 0 0) 0 (fiL 0 0)=fiL 0 0:=A8 rfl;rw [e4]at st4;refine Ai.mk (Mf s H4) ?_;rintro v5 H5 ⟨ha5,hPd⟩;unfold Gd at hPd;rw [hpm]at hPd;obtain⟨ns,na,nc,root,rfl,hT,hnl,hNs,hSl⟩:=hPd;obtain⟨na',nc',e5,st5⟩:=st4.got ha5 hSl;injection e5 with e51 e52 e53
   subst e51;subst e53;refine Ag _ reZ HJ rfl ?_;intro q5 H6 hq6 hs6 hb6 ha6;have st6:=st5.box hq6 hs6 hb6 ha6;refine Ay (cs:=reL (.slice na ns.length nc) (root:Int)) st6 4 rfl rfl (UL _) rfl fun H7 st7=>?_;rw [A8 (show(reL (.slice na ns.length nc) (root:Int)).length=reZ.length from rfl)]at st7;refine ldN (cs:=fiL 0 0) J7 (Sw (st7.blk 2 rfl)) trivial (Av Tryz.underlying27 rfl _ Rv (fiL 0 0) rfl (Sq (c:=0) (p:=0) (c':=0) (p':=0) (by decide) (BB (x:=0) (by decide)) (by decide) (BB (x:=0) (by decide)) ?_));rw [decide_eq_true (show(0:Nat)=0∧(0:Int)=0 from⟨rfl,rfl⟩)];(conv=>whnf);refine J9 Tryz.underlying4 ?_;(conv=>whnf);refine Ct (by omega) (st7.blk 4 rfl) Dd trivial (st7.view 3 rfl) fun v8 hv8=>(fa Lh ?_);refine ld1 (v:=.int .i64 (root:Int)) ct3 (by rw [(st7.blk 4 rfl).cell];rfl) trivial ?_;refine Ai.mk (Uc r.nodes r (UL _) (by omega) (fun k hk=>hk) hv8 hT) ?_;rintro _ H8 ⟨ha8,l,ma,mc,hm,rfl,hown8⟩;have hil:=Ce l;have hll:=hm.len;have hml:(metR r).length=l.length:=by rw [←hm.metR,Vq]
   obtain⟨_,_,e8,st8⟩:=st7.got ha8 hown8;injection e8 with e81 e82 e83
   subst e81;subst e83;rw [hil]at st8;replace st8:St H H8 (wtP nb rb q4 q5 wa wc N q ns na nc root ma mc l):=st8;clear st2 st3 st4 st5 st6 st7;(conv=>whnf);refine Al.cutJ wtJ [13] (fun _:Unit=>[.bool (wh0 N)]) (fun _ G=>St H G (wtP nb rb q4 q5 wa wc N q ns na nc root ma mc l)) ?_ ?_
   ·refine fa HA ?_;refine ld1 (v:=.int .i64 N.st) ct3 (by rw [(st8.blk 0 rfl).cell];rfl) trivial ?_;by_cases c0p:N.st≤65536
    ·have c0:decide (N.st≤65536)=true:=decide_eq_true c0p;(conv=>whnf);rw [c0];refine fa Lk ?_;refine ld1 (v:=.int .i64 N.start) ct3 (by rw [(st8.blk 0 rfl).cell];rfl) trivial ?_;by_cases c1p:N.start≥0
     ·have c1:decide (N.start≥0)=true:=decide_eq_true c1p;(conv=>whnf);rw [c1];refine fa Lk ?_;refine ld1 (v:=.int .i64 N.start) ct3 (by rw [(st8.blk 0 rfl).cell];rfl) trivial ?_;refine fa HA ?_;refine ld1 (v:=.int .i64 N.st) ct3 (by rw [(st8.blk 0 rfl).cell];rfl) trivial ?_;by_cases c2p:N.start<N.st
      ·have c2:decide (N.start<N.st)=true:=decide_eq_true c2p;(conv=>whnf);rw [c2];refine fa Ll ?_;refine ld1 (v:=.int .i64 N.fin) ct3 (by rw [(st8.blk 0 rfl).cell];rfl) trivial ?_;by_cases c3p:N.fin≥0
       ·have c3:decide (N.fin≥0)=true:=decide_eq_true c3p;(conv=>whnf);rw [c3];refine fa Ll ?_;refine ld1 (v:=.int .i64 N.fin) ct3 (by rw [(st8.blk 0 rfl).cell];rfl) trivial ?_;refine fa HA ?_;refine ld1 (v:=.int .i64 N.st) ct3 (by rw [(st8.blk 0 rfl).cell];rfl) trivial ?_;by_cases c4p:N.fin<N.st
        ·have c4:decide (N.fin<N.st)=true:=decide_eq_true c4p;(conv=>whnf);rw [c4];(conv=>whnf);exact⟨rfl,(),by unfold wh0;rw [c0,c1,c2,c3,c4];rfl,st8⟩
        ·have c4:decide (N.fin<N.st)=false:=decide_eq_false c4p;(conv=>whnf);rw [c4];(conv=>whnf);exact⟨rfl,(),by unfold wh0;rw [c0,c1,c2,c3,c4];rfl,st8⟩
       ·have c3:decide (N.fin≥0)=false:=decide_eq_false c3p;(conv=>whnf);rw [c3];(conv=>whnf);exact⟨rfl,(),by unfold wh0;rw [c0,c1,c2,c3];rfl,st8⟩
      ·have c2:decide (N.start<N.st)=false:=decide_eq_false c2p;(conv=>whnf);rw [c2];(conv=>whnf);exact⟨rfl,(),by unfold wh0;rw [c0,c1,c2];rfl,st8⟩
     ·have c1:decide (N.start≥0)=false:=decide_eq_false c1p;(conv=>whnf);rw [c1];(conv=>whnf);exact⟨rfl,(),by unfold wh0;rw [c0,c1];rfl,st8⟩
    ·have c0:decide (N.st≤65536)=false:=decide_eq_false c0p;(conv=>whnf);rw [c0];(conv=>whnf);exact⟨rfl,(),by unfold wh0;rw [c0];rfl,st8⟩
   ·rintro⟨⟩ H9 junk9 st9;clear st8;(conv=>whnf);refine AH.mk [14,13] (fun i:Nat=>[.int .i64 (i:Int),.bool (wh0 N&&(N.edges.take i).all (inW N))]) (fun i G=>i≤N.edges.length∧St H G (wtP nb rb q4 q5 wa wc N q ns na nc root ma mc l)) (fun i _=>N.edges.length - i) ?_ ?_
    ·(conv=>whnf);exact⟨0,by simp,UT _,st9⟩
    ·rintro i G junk ⟨hi,sg⟩;refine fa Iy ?_;refine ld1 (v:=.slice wa N.edges.length wc) OG (by rw [(sg.blk 0 rfl).cell];rfl) trivial ?_;refine AQ.mk (fun hz=>?_) (fun hz=>?_)<;>simp only [decide_eq_true_eq,decide_eq_false_iff_not]at hz
     ·obtain⟨e,hee⟩:=Bw (l:=N.edges) (k:=i) (by omega);refine fa Iy ?_;refine ld1 (v:=.slice wa N.edges.length wc) OG (by rw [(sg.blk 0 rfl).cell];rfl) trivial ?_;refine ixr (i:=i) Tj (hw1.frame (sg.old.mono hS)) hee rfl ?_;rintro b6 o6 c6 hS6 hc6 ⟨rfl,hok⟩;refine ldN (cs:=edL e) S7 hc6 trivial (Ag _ [.int .i64 0,.int .i64 0,.bool false,.int .u64 0,.int .u64 0,.int .u64 0,.int .u64 0] QU rfl ?_);intro x G1 hx hs1 hb1 ha1';have sg1:=sg.box hx hs1 hb1 ha1';refine Ay (cs:=edL e) sg1 6 rfl rfl (UL _) rfl fun G2 sg2=>?_;rw [Ae (show(edL e).length=7 from rfl)]at sg2;have hbx:=sg2.blk 6 rfl;cases hcur:(wh0 N&&(N.edges.take i).all (inW N))with
      | false=>
        (conv=>whnf);rw [w64 (x:=(i:Int)+1) (by omega) (by omega)];exact⟨rfl,i+1,by rw [GZ hee,hcur];rfl,⟨by omega,sg2.pick [0,1,2,3,4,5] (by decide)⟩,by omega⟩
      | true=>
        refine fa Lm ?_;refine ld1 (v:=.int .i64 e.fr) ct3 (by rw [hbx.cell];rfl) trivial ?_;by_cases c0p:e.fr≥0
        ·have c0:decide (e.fr≥0)=true:=decide_eq_true c0p;(conv=>whnf);rw [c0];refine fa Lm ?_;refine ld1 (v:=.int .i64 e.fr) ct3 (by rw [hbx.cell];rfl) trivial ?_;refine fa HA ?_;refine ld1 (v:=.int .i64 N.st) ct3 (by rw [(sg2.blk 0 rfl).cell];rfl) trivial ?_;by_cases c1p:e.fr<N.st
         ·have c1:decide (e.fr<N.st)=true:=decide_eq_true c1p;(conv=>whnf);rw [c1];refine fa Ln ?_;refine ld1 (v:=.int .i64 e.to) ct3 (by rw [hbx.cell];rfl) trivial ?_;by_cases c2p:e.to≥0
          ·have c2:decide (e.to≥0)=true:=decide_eq_true c2p;(conv=>whnf);rw [c2];refine fa Ln ?_;refine ld1 (v:=.int .i64 e.to) ct3 (by rw [hbx.cell];rfl) trivial ?_;refine fa HA ?_;refine ld1 (v:=.int .i64 N.st) ct3 (by rw [(sg2.blk 0 rfl).cell];rfl) trivial ?_;by_cases c3p:e.to<N.st
           ·have c3:decide (e.to<N.st)=true:=decide_eq_true c3p;(conv=>whnf);rw [c3];(conv=>whnf);rw [w64 (x:=(i:Int)+1) (by omega) (by omega)];exact⟨rfl,i+1,by rw [GZ hee,hcur];unfold inW;rw [c0,c1,c2,c3];rfl,⟨by omega,sg2.pick [0,1,2,3,4,5] (by decide)⟩,by omega⟩
           ·have c3:decide (e.to<N.st)=false:=decide_eq_false c3p;(conv=>whnf);rw [c3];(conv=>whnf);rw [w64 (x:=(i:Int)+1) (by omega) (by omega)];exact⟨rfl,i+1,by rw [GZ hee,hcur];unfold inW;rw [c0,c1,c2,c3];rfl,⟨by omega,sg2.pick [0,1,2,3,4,5] (by decide)⟩,by omega⟩
          ·have c2:decide (e.to≥0)=false:=decide_eq_false c2p;(conv=>whnf);rw [c2];(conv=>whnf);rw [w64 (x:=(i:Int)+1) (by omega) (by omega)];exact⟨rfl,i+1,by rw [GZ hee,hcur];unfold inW;rw [c0,c1,c2];rfl,⟨by omega,sg2.pick [0,1,2,3,4,5] (by decide)⟩,by omega⟩
         ·have c1:decide (e.fr<N.st)=false:=decide_eq_false c1p;(conv=>whnf);rw [c1];(conv=>whnf);rw [w64 (x:=(i:Int)+1) (by omega) (by omega)];exact⟨rfl,i+1,by rw [GZ hee,hcur];unfold inW;rw [c0,c1];rfl,⟨by omega,sg2.pick [0,1,2,3,4,5] (by decide)⟩,by omega⟩
        ·have c0:decide (e.fr≥0)=false:=decide_eq_false c0p;(conv=>whnf);rw [c0];(conv=>whnf);rw [w64 (x:=(i:Int)+1) (by omega) (by omega)];exact⟨rfl,i+1,by rw [GZ hee,hcur];unfold inW;rw [c0];rfl,⟨by omega,sg2.pick [0,1,2,3,4,5] (by decide)⟩,by omega⟩
     ·obtain rfl:i=N.edges.length:=by omega
      have hwh:(wh0 N&&(N.edges.take N.edges.length).all (inW N))=Bh N:=by rw [Vl];exact Sb N
      rw [hwh];clear st9;refine Ag (.slice none 0 0) [.slice none 0 0] rfl rfl ?_;intro ab Gq hab hsq hbq haq;have sq0:StB (Old G) G Gq ([]++LX ab [] (none,0)):=((St.nil G).box hab hsq hbq haq).nils Ko 9;have hnbk:=sg.blk 0 rfl;have hrbk:=sg.blk 1 rfl;refine Ai.mk (KW (m:=List.length) (M:=2000) (sub:=EN N q) (P:=LX ab) (f:=17) (first:= #[]) (cap:= #[.pointer (some ⟨ab,0,none⟩),.pointer (some ⟨rb,0,none⟩),.pointer (some ⟨nb,0,none⟩)]) (S8 N q) (Rh N hNl q) (UL _) r (by omega) (fun r' _ hr' l' g' hl' ps' H' st'=>TG hrbk hnbk hNr hNl ((hw1.frame (sg.old.mono hS)).mono fun k hk=>sg.up (hS k hk)) (Ef hE hE.2 sg.old) (Nat.le_trans hr' hn) hl' st') (s:=[]) (g:=(none,0)) (by simpa using hn) sq0) ?_;rintro v10 H10 hbw;obtain⟨code,cells,gg,rest,rfl,hcl,hco,st10,hU,hcm⟩:=U2 hn hbw;generalize hal0:(metR r).take (CB N q (metR r).length).2=al at st10;generalize hcnt:(CB N q (metR r).length).2=cnt at*;have hal2:al=(metR r).take cnt:=hal0.symm;have hal:al.length=cnt:=by rw [hal2,Vm];omega
      clear sq0 hbw hal0;refine Ag _ GB E5 rfl ?_;intro y H11 hy hs11 hb11 ha11;have st11:=(st10.box hy hs11 hb11 ha11).perm (US _ _);refine Ay (cs:=cells) st11 0 (by rw [hcl];rfl) rfl (by rw [hcl];exact UL _) hco fun H12 st12=>?_;rw [Ae (show cells.length=GB.length by rw [hcl];rfl)]at st12;obtain⟨PX,hPX⟩:∃PX,PX=pB 37 y cells::pB 60 ab [.slice gg.1 al.length gg.2]::pS Ko 9 gg.1 al.length gg.2 (al.map fun r=>bA (Am r))::rest:=⟨_,rfl⟩;replace st12:StB (Old G) G H12 PX:=by rw [hPX];exact st12
      clear st10 st11;(conv=>whnf);refine Al.cutJ wtJ [19,20] (fun _:Unit=>[.int .i64 (wtA N l).1,.int .i64 (((wtA N l).2:Nat):Int)]) (fun _ G'=>G'=H12) ?_ ?_
      ·by_cases k0:(l.length:Int)>0
       ·have d0:decide ((l.length:Int)>0)=true:=decide_eq_true k0;(conv=>whnf);rw [d0];cases hww:Bh N with
        | true=>
          have e0:wtA N l=(0,l.length):=if_neg fun h=>by rw [hww]at h;cases h.2
          (conv=>whnf);exact⟨rfl,(),by rw [e0],rfl⟩
        | false=>
          have e0:wtA N l=(2,1):=if_pos ⟨by omega,hww⟩;(conv=>whnf);exact⟨rfl,(),by rw [e0];rfl,rfl⟩
       ·have d0:decide ((l.length:Int)>0)=false:=decide_eq_false k0;have e0:wtA N l=(0,l.length):=if_neg fun h=>by omega
        (conv=>whnf);rw [d0];(conv=>whnf);exact⟨rfl,(),by rw [e0],rfl⟩
      rintro⟨⟩ Hx12 junk12 hHx12;rw [hHx12];clear hHx12;have hwant:(CB N q (metR r).length)=if 0<q∧q≤(((wtA N l).2:Nat):Int)then(40,q.toNat)else wtA N l:=by
       rw [hml];unfold CB wtA;by_cases k0:0<l.length∧Bh N=false
       ·rw [if_pos k0,if_pos k0]
       ·rw [if_neg k0,if_neg k0]
      generalize wtA N l=w1 at*;have so12:=sg.call st12.old;(conv=>whnf);refine Al.cutJ wtJ [19,20] (fun _:Unit=>[.int .i64 (CB N q (metR r).length).1,.int .i64 ((cnt:Nat):Int)]) (fun _ G'=>G'=H12) ?_ ?_
      ·refine ld1 (v:=.int .i64 q) ct3 (by rw [(so12.blk 1 rfl).cell];rfl) trivial ?_;by_cases k0:q>0
       ·have d0:decide (q>0)=true:=decide_eq_true k0;(conv=>whnf);rw [d0];refine ld1 (v:=.int .i64 q) ct3 (by rw [(so12.blk 1 rfl).cell];rfl) trivial ?_;by_cases k1:q≤((w1.2:Nat):Int)
        ·have d1:decide (q≤((w1.2:Nat):Int))=true:=decide_eq_true k1;rw [if_pos ⟨k0,k1⟩]at hwant;(conv=>whnf);rw [d1];refine As.lex rfl (by kernel_rfl) ?_;refine ld1 (v:=.int .i64 q) ct3 (by rw [(so12.blk 1 rfl).cell];rfl) trivial ?_;(conv=>whnf);exact⟨rfl,(),by rw [←hcnt,hwant];simp only;rw [Int.toNat_of_nonneg (by omega)],rfl⟩
        ·have d1:decide (q≤((w1.2:Nat):Int))=false:=decide_eq_false k1;rw [if_neg fun h=>k1 h.2]at hwant;(conv=>whnf);rw [d1];(conv=>whnf);exact⟨rfl,(),by rw [←hcnt,hwant],rfl⟩
       ·have d0:decide (q>0)=false:=decide_eq_false k0;rw [if_neg fun h=>k0 h.1]at hwant;(conv=>whnf);rw [d0];(conv=>whnf);exact⟨rfl,(),by rw [←hcnt,hwant],rfl⟩
      rintro⟨⟩ Hx15 junk15 hHx15;rw [hHx15];clear hHx15;clear hwant;refine Ag _ GB Ih rfl ?_;intro zb H16 hzb hs16 hb16 ha16;have st16:StB (Old G) G H16 (pB 42 zb GB::PX):=(st12.box hzb hs16 hb16 ha16).perm (US _ _);rcases hU with⟨hw0,hwh2,hcase⟩ | ⟨hw0,rfl,rfl⟩
      case inr=>
       have d0:((CB N q (metR r).length).1==0)=false:=beq_eq_false_iff_ne.2 hw0;have d1:((CB N q (metR r).length).1 != (CB N q (metR r).length).1)=false:=by simp
       have st17:=st16.sub (Ve _ _);rw [hPX]at st17;generalize (CB N q (metR r).length).1=wv at*;refine Al.run ?_;(conv=>whnf);rw [d0];(conv=>whnf);rw [d1];refine ld1 (v:=.slice gg.1 al.length gg.2) Lb (by rw [(st17.blk 1 rfl).cell];rfl) trivial ?_;have dn:((al.length:Int) != ((cnt:Nat):Int))=false:=by rw [hal];simp
       (conv=>whnf);rw [dn];(conv=>whnf);refine AH.mk [24] (fun i:Nat=>[.int .i64 (i:Int)]) (fun i G'=>i≤cnt∧StB (Old G) G G' (pB 37 y GB::pB 60 ab [.slice gg.1 al.length gg.2]::pS Ko 9 gg.1 al.length gg.2 (al.map fun r=>bA (Am r))::rest)) (fun i _=>cnt - i) ?_ ?_
       ·(conv=>whnf);exact⟨0,rfl,UT _,st17⟩
       ·rintro i Gi junk ⟨hi,sk⟩;refine AQ.mk (fun hz=>?_) (fun hz=>?_)<;>simp only [decide_eq_true_eq,decide_eq_false_iff_not]at hz
        ·have so:=sg.call sk.old;obtain⟨z,hz'⟩:=Bw (l:=l) (k:=i) (by omega);have hzm:=UU hz';obtain⟨hsg,hzt,hzl⟩:=hm.at_ z hzm;have hzn:=Kc hm z hzm;have hax:(al.map fun r=>bA (Am r))[i]? =some (bA (Am z.1)):=by
          rw [UP,hal2,UW (by omega),←hm.metR,UP,hz'];rfl
         have hzi:(AS l)[i]? =some (z.2:Int):=by unfold AS;rw [UP,hz'];rfl
         refine As.heldZ (Old Gi) [] (sq [0,1,2,3,4,5,6,7,8,9,10] (.f 11 (sq [12] .e))) rfl (by kernel_rfl) ?_;refine ld1 (v:=.slice gg.1 al.length gg.2) Lb (by rw [(sk.blk 1 rfl).cell];rfl) (sk.in_ 1 rfl rfl).2 ?_;refine ixO (j:=i) QE sk 2 rfl hax rfl ?_;rintro b5 o5 c5 hS5 hc5 ⟨rfl,-⟩;refine ld1 (v:=.string (bA (Am z.1))) ct9 hc5.one hS5 (fa Cm ?_);refine ld1 (v:=.slice na ns.length nc) C0 (by rw [(so.blk 4 rfl).cell];rfl) (so.in_ 4 rfl rfl).2 ?_;refine ixO (j:=i) BU so 5 rfl hzi rfl ?_;rintro b6 o6 c6 hS6 hc6 ⟨rfl,-⟩;refine ld1 (v:=.int .i64 (z.2:Int)) ct3 hc6.one hS6 (Av Tryz.underlying32 rfl _ HJ (reL (.slice na ns.length nc) (z.2:Int)) rfl (Af (JD (r:=z.1) (by omega) (fun k hk=>hk) ⟨by omega,na,nc,rfl,so.view 3 rfl⟩ hzt) fun Gj haj=>?_));have sj:=sk.call haj;refine⟨haj,?_⟩;have dS:(!((bA (Am z.1)).toList==(bA (Am z.1)).toList))=false:=by rw [beq_self_eq_true];rfl
         (conv=>whnf);rw [dS];(conv=>whnf);rw [w64 (x:=(i:Int)+1) (by omega) (by omega)];exact⟨rfl,i+1,rfl,⟨by omega,sj⟩,by omega⟩
        ·have so:=sg.call sk.old;(conv=>whnf);rw [d0];refine fa CN ?_;refine ld1 (v:=.int .i64 0) ct3 (by rw [(sk.blk 0 rfl).cell];rfl) trivial ?_;refine fa CC ?_;refine ld1 (v:=.slice none 0 0) FI (by rw [(sk.blk 0 rfl).cell];rfl) trivial ?_;(conv=>whnf);exact⟨rfl,so.old⟩
      rw [hw0];have hcl2:cnt=l.length:=by
       have h1:=Rg hw0;omega
      have hsubs:FF (fun _=>N) (l.map fun z=>(z.2,N)) l:=Sd (hwh2.imp (fun h=>List.eq_nil_of_length_eq_zero (by rw [←hml,h];rfl)) id) hNl;refine Al.run ?_;(conv=>whnf);refine AH.mk [22,23] (fun x:Option Addr×Nat×Nat=>match x with | (a,c,k)=>[.slice a k c,.int .i64 (k:Int)]) (fun x G'=>match x with | (a,c,k)=>k≤l.length∧∃SS,StB (Old G) G G' (pN RR SS 67 a k c ((l.take k).map fun z=>(z.2,N))::pB 42 zb GB::PX)) (fun x _=>l.length - x.2.2) ?_ ?_
      ·(conv=>whnf);exact⟨(none,0,0),rfl,UT _,none_,(st16.nils RR 67).perm (US _ _)⟩
      clear st12 st16;rintro⟨a,c,k⟩ Gk junk ⟨hk,SS,sk⟩;have so:=sg.call sk.old;have hxl:((l.take k).map fun z=>(z.2,N)).length=k:=by rw [Vq,Vm];omega
      refine AQ.mk (fun hz=>?_) (fun hz=>?_)<;>simp only [decide_eq_true_eq,decide_eq_false_iff_not]at hz
      ·obtain⟨z,hz'⟩:=Bw (l:=l) (k:=k) (by omega);have hzm:=UU hz';obtain⟨hsg,hzt,hzl⟩:=hm.at_ z hzm;have hzi:(AS l)[k]? =some (z.2:Int):=by unfold AS;rw [UP,hz'];rfl
       have hnx:((l.take k).map fun z=>(z.2,N))++[(z.2,N)]=(l.take (k+1)).map fun z=>(z.2,N):=by rw [Vj,hz'];simp
       refine As.heldZ (Old G) [] (sq [0,1,2,3,4,5] (.f 6 (sq [7] (.f 8 (.f 9 (sq [10] .e)))))) rfl (by kernel_rfl) (ixO (j:=k) BU sg 5 rfl hzi rfl ?_);rintro b5 o5 c5 hS5 hc5 ⟨rfl,-⟩;refine ld1 (v:=.int .i64 (z.2:Int)) ct3 (hc5.eq (sk.old b5 hS5)).one hS5 (Dh hNr hNl (so.blk 0 rfl) TD (sg.in_ 0 rfl rfl).2 (hw1.frame (so.old.mono hS)) fun v4 hv4=>(Ai.mk (Ro (fun k hk=>so.up (hS k hk)) hv4) ?_));rintro _ G12 ⟨ha12,ea,ec,rfl,hown⟩;refine⟨ha12.mono fun k hk=>A0 sk.old hk,?_⟩;obtain⟨_,_,e1,hsl,-⟩:=hown.view (S':=fun k2=>SS k2∨slB (.slice ea N.edges.length ec) k2) (fun b hb=>.inr hb) (fun b hb=>hb.elim);injection e1 with e11 e12 e13
       subst e11;subst e13;obtain⟨_,_,e1,sk12⟩:=sk.got ha12 hown;injection e1 with e11 e12 e13
       subst e11;subst e13;have sk13:=StB.absorbH (sk12.perm ((US _ _).cons _));refine Av Tryz.underlying67 rfl (Tryz.t67.zero.getD undef) rfl (.int .i64 (z.2:Int)::nfL N (.slice ea N.edges.length ec)) rfl (AM Pr (.int .i64 (z.2:Int)::nfL N (.slice ea N.edges.length ec)) rfl rfl (by decide) (by decide) ?_);intro qd G13 hqd hs13 hb13 ha13;have sk14:=sk13.skip hqd ha13;have gA:Agr (Old G) Gk G13:=(ha12.mono fun k hk=>A0 sk.old hk).trans (ha13.mono fun k hk=>by have:=A0 sk13.old hk;omega);refine⟨gA,?_⟩;have hsl2:=hsl.frame (ha13.mono fun k hk=>by have:=(sk13.in_ 0 rfl (.inr hk)).2;omega);refine TE (x:=(z.2,N)) sk14 Pr (hb13.cells (o:=0) (cs:=.int .i64 (z.2:Int)::nfL N (.slice ea N.edges.length ec)) fun j v hv=>by rw [UO];exact hv) ⟨ea,ec,rfl,hNl,hsl2⟩ rfl (fun u hu=>UQ.1 (show(Value.int .i64 (z.2:Int)::nfL N (.slice ea N.edges.length ec)).all (·.oneCell')=true from rfl) u hu) (by omega) (by decide) fun a9 c9 G14 sk15 ha14=>?_;refine⟨gA.trans (ha14.mono fun k hk=>⟨A0 sk14.old hk,fun h=>(sk14.in_ 0 rfl (.inl h)).1 hk⟩),?_⟩;(conv=>whnf);rw [w64 (x:=(k:Int)+1) (by omega) (by omega)];rw [hxl];rw [hxl,hnx]at sk15;exact⟨rfl,(a9,c9,k+1),rfl,⟨by omega,_,sk15⟩,by simp only;omega⟩
      ·obtain rfl:k=l.length:=by omega
       rw [Vl]at sk hxl;have hWc:=Rn (S:=Old Gk) (v:=.agg (reL (.slice na ns.length nc) (root:Int)).toArray) (root:=(root:Int)) hn (fun k hk=>hk) ⟨by omega,na,nc,rfl,so.view 3 rfl⟩ (sk.view 0 rfl) (by omega) hT hm hsubs;rw [hxl]at hWc;refine ldN (cs:=reL (.slice na ns.length nc) (root:Int)) Dd ((so.blk 4 rfl).cells fun j v hv=>by rw [UO];exact hv) trivial ?_;refine fa Lh ?_;refine ld1 (v:=.int .i64 (root:Int)) ct3 (by rw [(so.blk 4 rfl).cell];rfl) trivial ?_;refine Ai.mk hWc ?_;rintro u20 H20 ⟨ha20,hWD⟩;unfold NM at hWD;rcases hcase with⟨hu,rfl,rfl⟩ | ⟨hu,rfl,hul,hur,ea,ec,rfl,rfl⟩
       ·rw [if_pos hu]at hWD;obtain⟨dl,hdl,hdo,rfl⟩:=hWD;have sk20:=sk.call ha20;refine Ay (cs:=dl) sk20 1 (by rw [hdl];rfl) rfl (by rw [hdl];exact UL _) hdo fun H21 st21=>?_;have st17:=st21.sub (.cons _ (Ve _ _));rw [hPX]at st17;(conv=>whnf);refine ld1 (v:=.slice gg.1 al.length gg.2) Lb (by rw [(st17.blk 1 rfl).cell];rfl) trivial ?_;have dn:((al.length:Int) != ((cnt:Nat):Int))=false:=by rw [hal];simp
        (conv=>whnf);rw [dn];(conv=>whnf);refine AH.mk [24] (fun i:Nat=>[.int .i64 (i:Int)]) (fun i G'=>i≤cnt∧StB (Old G) G G' (pB 37 y GB::pB 60 ab [.slice gg.1 al.length gg.2]::pS Ko 9 gg.1 al.length gg.2 (al.map fun r=>bA (Am r))::rest)) (fun i _=>cnt - i) ?_ ?_
        ·(conv=>whnf);exact⟨0,rfl,UT _,st17⟩
        ·rintro i Gi junk ⟨hi,sk⟩;refine AQ.mk (fun hz=>?_) (fun hz=>?_)<;>simp only [decide_eq_true_eq,decide_eq_false_iff_not]at hz
         ·have so:=sg.call sk.old;obtain⟨z,hz'⟩:=Bw (l:=l) (k:=i) (by omega);have hzm:=UU hz';obtain⟨hsg,hzt,hzl⟩:=hm.at_ z hzm;have hzn:=Kc hm z hzm;have hax:(al.map fun r=>bA (Am r))[i]? =some (bA (Am z.1)):=by
           rw [UP,hal2,UW (by omega),←hm.metR,UP,hz'];rfl
          have hzi:(AS l)[i]? =some (z.2:Int):=by unfold AS;rw [UP,hz'];rfl
          refine As.heldZ (Old Gi) [] (sq [0,1,2,3,4,5,6,7,8,9,10] (.f 11 (sq [12] .e))) rfl (by kernel_rfl) ?_;refine ld1 (v:=.slice gg.1 al.length gg.2) Lb (by rw [(sk.blk 1 rfl).cell];rfl) (sk.in_ 1 rfl rfl).2 ?_;refine ixO (j:=i) QE sk 2 rfl hax rfl ?_;rintro b5 o5 c5 hS5 hc5 ⟨rfl,-⟩;refine ld1 (v:=.string (bA (Am z.1))) ct9 hc5.one hS5 (fa Cm ?_);refine ld1 (v:=.slice na ns.length nc) C0 (by rw [(so.blk 4 rfl).cell];rfl) (so.in_ 4 rfl rfl).2 ?_;refine ixO (j:=i) BU so 5 rfl hzi rfl ?_;rintro b6 o6 c6 hS6 hc6 ⟨rfl,-⟩;refine ld1 (v:=.int .i64 (z.2:Int)) ct3 hc6.one hS6 (Av Tryz.underlying32 rfl _ HJ (reL (.slice na ns.length nc) (z.2:Int)) rfl (Af (JD (r:=z.1) (by omega) (fun k hk=>hk) ⟨by omega,na,nc,rfl,so.view 3 rfl⟩ hzt) fun Gj haj=>?_));have sj:=sk.call haj;refine⟨haj,?_⟩;have dS:(!((bA (Am z.1)).toList==(bA (Am z.1)).toList))=false:=by rw [beq_self_eq_true];rfl
          (conv=>whnf);rw [dS];(conv=>whnf);rw [w64 (x:=(i:Int)+1) (by omega) (by omega)];exact⟨rfl,i+1,rfl,⟨by omega,sj⟩,by omega⟩
         ·have so:=sg.call sk.old;(conv=>whnf);refine fa CN ?_;refine ld1 (v:=.int .i64 0) ct3 (by rw [(sk.blk 0 rfl).cell];rfl) trivial ?_;refine fa CC ?_;refine ld1 (v:=.slice none 0 0) FI (by rw [(sk.blk 0 rfl).cell];rfl) trivial ?_;(conv=>whnf);exact⟨rfl,so.old⟩
       ·rw [if_neg hu]at hWD;obtain⟨da,dc,rfl,hown2⟩:=hWD;obtain⟨_,_,e1,sk20⟩:=sk.got ha20 hown2;injection e1 with e11 e12 e13
        subst e11;subst e13;refine Ay (cs:=nfL (nfU (fun _=>N) r) (.slice da (nfU (fun _=>N) r).edges.length dc)) sk20 1 rfl rfl (UL _) rfl fun H21 st21=>?_;rw [hPX]at st21;have st17:StB (Old G) G H21 ([pB 37 y (nfL (nfU (fun _=>N) r) (.slice ea (nfU (fun _=>N) r).edges.length ec)),pB 60 ab [.slice gg.1 al.length gg.2],pS Ko 9 gg.1 al.length gg.2 (al.map fun r=>bA (Am r)),pS tEd 104 ea (nfU (fun _=>N) r).edges.length ec (nfU (fun _=>N) r).edges,pB 42 zb (nfL (nfU (fun _=>N) r) (.slice da (nfU (fun _=>N) r).edges.length dc)),pS Hk 106 da (nfU (fun _=>N) r).edges.length dc (nfU (fun _=>N) r).edges]):=st21.pick [2,3,4,5,1,6] (by decide);(conv=>whnf);refine ld1 (v:=.slice gg.1 al.length gg.2) Lb (by rw [(st17.blk 1 rfl).cell];rfl) trivial ?_;have dn:((al.length:Int) != ((cnt:Nat):Int))=false:=by rw [hal];simp
        (conv=>whnf);rw [dn];(conv=>whnf);refine AH.mk [24] (fun i:Nat=>[.int .i64 (i:Int)]) (fun i G'=>i≤cnt∧StB (Old G) G G' ([pB 37 y (nfL (nfU (fun _=>N) r) (.slice ea (nfU (fun _=>N) r).edges.length ec)),pB 60 ab [.slice gg.1 al.length gg.2],pS Ko 9 gg.1 al.length gg.2 (al.map fun r=>bA (Am r)),pS tEd 104 ea (nfU (fun _=>N) r).edges.length ec (nfU (fun _=>N) r).edges,pB 42 zb (nfL (nfU (fun _=>N) r) (.slice da (nfU (fun _=>N) r).edges.length dc)),pS Hk 106 da (nfU (fun _=>N) r).edges.length dc (nfU (fun _=>N) r).edges])) (fun i _=>cnt - i) ?_ ?_
        ·(conv=>whnf);exact⟨0,rfl,UT _,st17⟩
        ·rintro i Gi junk ⟨hi,sk⟩;refine AQ.mk (fun hz=>?_) (fun hz=>?_)<;>simp only [decide_eq_true_eq,decide_eq_false_iff_not]at hz
         ·have so:=sg.call sk.old;obtain⟨z,hz'⟩:=Bw (l:=l) (k:=i) (by omega);have hzm:=UU hz';obtain⟨hsg,hzt,hzl⟩:=hm.at_ z hzm;have hzn:=Kc hm z hzm;have hax:(al.map fun r=>bA (Am r))[i]? =some (bA (Am z.1)):=by
           rw [UP,hal2,UW (by omega),←hm.metR,UP,hz'];rfl
          have hzi:(AS l)[i]? =some (z.2:Int):=by unfold AS;rw [UP,hz'];rfl
          refine As.heldZ (Old Gi) [] (sq [0,1,2,3,4,5,6,7,8,9,10] (.f 11 (sq [12] .e))) rfl (by kernel_rfl) ?_;refine ld1 (v:=.slice gg.1 al.length gg.2) Lb (by rw [(sk.blk 1 rfl).cell];rfl) (sk.in_ 1 rfl rfl).2 ?_;refine ixO (j:=i) QE sk 2 rfl hax rfl ?_;rintro b5 o5 c5 hS5 hc5 ⟨rfl,-⟩;refine ld1 (v:=.string (bA (Am z.1))) ct9 hc5.one hS5 (fa Cm ?_);refine ld1 (v:=.slice na ns.length nc) C0 (by rw [(so.blk 4 rfl).cell];rfl) (so.in_ 4 rfl rfl).2 ?_;refine ixO (j:=i) BU so 5 rfl hzi rfl ?_;rintro b6 o6 c6 hS6 hc6 ⟨rfl,-⟩;refine ld1 (v:=.int .i64 (z.2:Int)) ct3 hc6.one hS6 (Av Tryz.underlying32 rfl _ HJ (reL (.slice na ns.length nc) (z.2:Int)) rfl (Af (JD (r:=z.1) (by omega) (fun k hk=>hk) ⟨by omega,na,nc,rfl,so.view 3 rfl⟩ hzt) fun Gj haj=>?_));have sj:=sk.call haj;refine⟨haj,?_⟩;have dS:(!((bA (Am z.1)).toList==(bA (Am z.1)).toList))=false:=by rw [beq_self_eq_true];rfl
          (conv=>whnf);rw [dS];(conv=>whnf);rw [w64 (x:=(i:Int)+1) (by omega) (by omega)];exact⟨rfl,i+1,rfl,⟨by omega,sj⟩,by omega⟩
         ·have so:=sg.call sk.old;(conv=>whnf);refine ldN (cs:=nfL (nfU (fun _=>N) r) (.slice ea (nfU (fun _=>N) r).edges.length ec)) Ek ((sk.blk 0 rfl).cells fun j v hv=>by rw [UO];exact hv) trivial ?_;refine ldN (cs:=nfL (nfU (fun _=>N) r) (.slice da (nfU (fun _=>N) r).edges.length dc)) LT ((sk.blk 4 rfl).cells fun j v hv=>by rw [UO];exact hv) trivial ?_;refine Af (Pp (fun k hk=>hk) (fun k hk=>hk) hur (by omega) (sk.view 3 rfl) (sk.view 5 rfl)) fun Gz haz=>?_;(conv=>whnf);exact⟨rfl,(so.call haz).old⟩
theorem IW(s:ByteArray)(v:Value)(N:NfM)(q:Int)(S:Nat→Prop)(H:Aa)(hs:s.size≤1048576)(hS:∀k,S k→k<H.size)(hN:NfV S H v N)(hq: -9223372036854775808≤q∧q≤9223372036854775807)(hE:DP H):Bv Tryz.prog 5 #[.string s,v,.int .i64 q] H (.bool true):=IV s v N q S H hS hN hE
end Go.Proofs.YtlnmhfhdjnenoaaGreatDoor
namespace Go.Proofs.YtlnmhfhdjnenoaaGreatDoor
open Go.VC Go.Lib
open Go.ChangeShapes Go.WideShapes Go.ChangeAt Go.RowKit
theorem PP:Tryz.prog.globalNamed "loupe/class.escapes" =some 0:=by kernel_rfl
theorem SD:(Tryz.prog.globals[0]?).map (·.type)=some 189:=by kernel_rfl
theorem TO:Tryz.prog.cellsOf 189=6:=by kernel_rfl
theorem PO:Tryz.prog.cellsOf 188=2:=by kernel_rfl
theorem TP:Tryz.prog.underlying 189=some (.array 3 188):=by kernel_rfl
theorem L6{enc:TypeId×Value→Unit}{w:World}{base:Nat}{sp:Nat→Bool}{held:Bool}{fuel:Nat}{cs:List Value}{a b:Int}{p:List MemPlace}
  (h:DataW.trod enc Tryz.prog w base sp held fuel 188 cs=some (.agg [.lit (.int .u8 a),.lit (.int .u8 b)],p)):cs=[.int .u8 a,.int .u8 b]:=by
 obtain⟨y0,y1,m,e,hl,h0,h1⟩:=trod_struct2 Tryz.underlying188 h;obtain⟨n0,e0,r0,-⟩:=DataW.trod_int Tryz.underlying5 h0;obtain⟨n1,e1,r1,-⟩:=DataW.trod_int Tryz.underlying5 h1;subst r0;subst r1;injection e with e2 e3
 injection e2 with e2
 simp only [Vt.injEq,DataW.lit.injEq,Lit.int.injEq,true_and,and_true]at e2;rw [PO]at hl
 match cs,hl with
 | [x,y],_=>
   have e0:[x]=[Value.int .u8 n0]:=e0;have e1:[y]=[Value.int .u8 n1]:=e1;injection e0 with e0
   injection e1 with e1
   rw [e0,e1,←e2.1,←e2.2]
theorem OL{enc:TypeId×Value→Unit}{w:World}{base:Nat}{sp:Nat→Bool}{held:Bool}{fuel:Nat}{cs:List Value}{p:List MemPlace}
  (h:DataW.trod enc Tryz.prog w base sp held fuel 189 cs=some (Rows.laid_loupe_class_escapes,p)):cs=Nh:=by
 obtain⟨xs,m,-,e,hl,hx,hi⟩:=DataW.trod_array TP h;rw [TO]at hl;injection e with e1 e2
 have e1:(Rows.laid_loupe_class_escapes:DataW Unit)= .agg (xs.map (·.1)):=e1;unfold Rows.laid_loupe_class_escapes at e1;injection e1 with e1
 match xs,hx with
 | [x0,x1,x2],_=>
   simp only [Vu,List.map_nil,Vt.injEq,and_true]at e1;obtain⟨r0,r1,r2⟩:=e1;have h0:=hi 0 (by decide);have h1:=hi 1 (by decide);have h2:=hi 2 (by decide);rw [PO]at h0 h1 h2;have k0:=L6 (p:=x0.2) (h0.trans (by rw [r0];rfl));have k1:=L6 (p:=x1.2) (h1.trans (by rw [r1];rfl));have k2:=L6 (p:=x2.2) (h2.trans (by rw [r2];rfl))
   match cs,hl with
   | [a,b,c,d,e,f],_=>
     have k0:[a,b]=_:=k0;have k1:[c,d]=_:=k1;have k2:[e,f]=_:=k2;simp only [Vt.injEq,and_true]at k0 k1 k2;obtain⟨rfl,rfl⟩:=k0;obtain⟨rfl,rfl⟩:=k1;obtain⟨rfl,rfl⟩:=k2;rfl
theorem Mk{W:World}(h:laidMetH Tryz.prog [("loupe/class.escapes",Rows.laid_loupe_class_escapes)] W):DP W.heap:=by
 obtain⟨ps,⟨g0,t0,cs0,f0,p0,q0,hg0,ht0,hv0,hd0,-,-⟩,-⟩:=h;obtain rfl:=Option.some.inj (PP.symm.trans hg0);obtain rfl:=Option.some.inj (SD.symm.trans ht0);have hc:=OL hd0;refine⟨fun j v hj=>?_,?_⟩
 ·have:=World.var?_cell PP hv0 j;rw [UO];have h2:cs0[j]? =some v:=by
   rw [←Array.getElem?_toList,hc];exact hj
  rw [h2]at this;exact this
 ·unfold World.var? at hv0;rw [PP]at hv0;apply Classical.byContradiction;intro hn;simp only [Option.bind_some]at hv0;rw [Array.getElem?_eq_none (by omega)]at hv0;simp at hv0
def Td(vs:Array Value):Obj→Obj
 | .cells _ t frozen=>.cells vs t frozen
 | o=>o
noncomputable def Nn(os:Os):World:=
 {World.holding Tryz.prog os ⟨#[], #[],[]⟩with heap:=(World.holding Tryz.prog os ⟨#[], #[],[]⟩).heap.modify 0 (Td Nh.toArray)}
end Go.Proofs.YtlnmhfhdjnenoaaGreatDoor
namespace Go.VC
open Go.Proofs.YtlnmhfhdjnenoaaGreatDoor.Rows (uptoBulk uptoBulkAll)
def InW(W:World)(k:Nat):Prop:=k<W.heap.size
def Kq{H:Type}(enc:TypeId×Value→H)(P:Program)(W:World){α:Type}(T:Ty α)(sz:α→Nat)(t:TypeId):Prop:=
 ∀fuel cs d ps,DataW.trod enc P W 0 (fun _=>true) true fuel t cs=some (d,ps)→∃x,T.rep (InW W) W.heap cs x∧sz x≤uptoBulk d
def szL{α:Type}(sz:α→Nat):List α→Nat
 | []=>1
 | x::xs=>sz x+szL sz xs
theorem MK{α:Type}(sz:α→Nat)(x:α):∀xs:List α,szL sz (xs++[x])=szL sz xs+sz x
 | []=>by simp [szL];omega
 | y::ys=>by simp only [Vn,szL,MK sz x ys];omega
theorem ALq{α:Type}{sz:α→Nat}(h:∀x,1≤sz x):∀xs:List α,xs.length+1≤szL sz xs
 | []=>UL _
 | y::ys=>by have:=ALq h ys;have:=h y;simp only [Vc,szL];omega
theorem HV{H:Type}(d:DataW H):∀ds:List (DataW H),uptoBulkAll (ds++[d])=uptoBulkAll ds+uptoBulk d
 | []=>by simp [uptoBulkAll]
 | y::ys=>by simp only [Vn,uptoBulkAll,HV d ys];omega
section
variable{H:Type}{enc:TypeId×Value→H}{P:Program}{W:World}{t e:TypeId}
theorem F6{k:IntKind}(ht:P.underlying t=some (.int k)):Kq enc P W (Kn k) (fun _=>1) t:=by
 intro fuel cs d ps h;obtain⟨n,rfl,hd,hw⟩:=DataW.trod_int ht h;cases hd;simp only [Lit.wf,Vo,decide_eq_true_eq]at hw;exact⟨n,⟨rfl,hw⟩,by simp [uptoBulk]⟩
theorem Nw(ht:P.underlying t=some .bool):Kq enc P W Uo (fun _=>1) t:=by
 intro fuel cs d ps h;obtain⟨b,rfl,hd⟩:=DataW.trod_bool ht h;cases hd;exact⟨b,rfl,by simp [uptoBulk]⟩
theorem Ku{a:Addr}{n:Nat}{cs:List Value}(h:W.cells? 0 a n=some cs)(hn:0<n):cs.length=n∧a.spot=none∧a.block<W.heap.size∧Bo W.heap a.block a.off cs:=by
 unfold World.cells? at h;rw [if_pos (UT _)]at h;have hl:=mapM_some_length h;rw [List.length_range]at hl;have hg:∀j,j<n→W.cell? (a.add j)=cs[j]? :=fun j hj=>mapM_some_get h j j (by simp [hj]);obtain⟨v0,hv0⟩:∃v,cs[0]? =some v:=⟨cs[0]'(by omega),UR (by omega)⟩;have h0:=hg 0 hn;rw [hv0]at h0;have hsp:a.spot=none:=by
  cases hs:a.spot with
  | none=>rfl
  | some x=>
    unfold World.cell? at h0;split at h0
    ·simp [Addr.add,hs]at h0
    ·cases h0
 refine⟨hl,hsp,?_,fun j v hv=>?_⟩
 ·unfold World.cell? at h0;split at h0
  ·rename_i he;exact(Array.getElem?_eq_some_iff.1 he).1
  ·cases h0
 ·have hj:=(UV.1 hv).1;have:=hg j (by omega);rw [hv]at this;rw [←Fu];obtain⟨b,o,sp⟩:=a;simp only at hsp;subst hsp;rw [Addr.add_mid]at this;exact this
theorem Mz{α:Type}{T:Ty α}{sz:α→Nat}(ht:P.underlying t=some (.slice e))(hc:P.cellsOf e=T.size)(h0:0<T.size)(he:Kq enc P W T sz e):Kq enc P W (tSl T) (szL sz) t:=by
 intro fuel cs d ps h;rcases DataW.trod_slice ht h with⟨rfl,hd⟩ | ⟨a,len,cap,elems,rest,n,rfl,rfl,hd,-,hl,hm,hel,hget,hsp,-⟩
 ·cases hd;exact⟨[],⟨none,0,rfl,rfl,rfl⟩,by simp [szL,uptoBulk]⟩
 ·cases hd;obtain⟨hrl,hrest⟩:=hsp rfl;rw [hc]at hget hrest;by_cases hcap:cap=0
  ·obtain rfl:len=0:=by omega
   exact⟨[],⟨some a,cap,rfl,by simp,hm,.inl hcap⟩,by simp [szL,uptoBulk]⟩
  ·have hsb:a.spot=none∧a.block<W.heap.size:=by
    have key:∀y,(W.cells? 0 (a.add (0*T.size)) T.size).bind (DataW.trod enc P W 0 (fun _=>true) true n e)=some y→a.spot=none∧a.block<W.heap.size:=by
     intro y hy;obtain⟨c,hc1,hc2⟩:=Vd.1 hy;obtain⟨g1,g2,g3,g4⟩:=Ku hc1 h0;rw [Nat.zero_mul]at g2 g3;unfold Addr.add at g2 g3;split at g2<;>simp_all
    by_cases hil:0<len
    ·exact key _ ((hget 0 hil).trans (UR (by omega)))
    ·have:=hrest 0 (by omega);rw [show len+0=0 by omega]at this;exact key _ (this.trans (UR (by omega)))
   obtain⟨b,o,sp⟩:=a;obtain⟨rfl,hb⟩:=hsb;have build:∀m,m≤len→∃ec xs,xs.length=m∧Bo W.heap b o ec∧T.reps (InW W) W.heap ec xs∧szL sz xs≤uptoBulkAll ((elems.take m).map (·.1))+1:=by
    intro m
    induction m with
    | zero=>exact fun _=>⟨[],[],rfl,(fun j v hv=>by simp at hv),rfl,by simp [szL]⟩
    | succ m ih=>
      intro hm';obtain⟨ec,xs,h1,h2,h3,hz⟩:=ih (by omega);have hy:elems[m]? =some (elems[m]'(by omega)):=UR (by omega);obtain⟨c,h4,hc2⟩:=Vd.1 ((hget m (by omega)).trans hy);obtain⟨x,h5,hzx⟩:=he n c _ _ hc2;obtain⟨g1,g2,g3,g4⟩:=Ku h4 h0;rw [Addr.add_mid]at g4;have hel:=Ty.reps_len h3;refine⟨ec++c,xs++[x],by simp [h1],fun j v hv=>?_,Ty.reps_snoc h3 h5,?_⟩
      ·by_cases hj:j<ec.length
       ·rw [List.getElem?_append_left hj]at hv;exact h2 j v hv
       ·rw [List.getElem?_append_right (by omega)]at hv;have:=g4 _ v hv;simp only at this;rw [show o+m*T.size+(j - ec.length)=o+j by rw [hel,h1]at*;omega]at this;exact this
      ·rw [MK,Vj,hy,Option.toList_some,List.map_append,List.map_singleton,HV];refine Nat.le_trans (Nat.add_le_add hz hzx) ?_;rw [Nat.add_right_comm];exact UL _
   obtain⟨ec,xs,h1,h2,h3,hz⟩:=build len (UL _);rw [List.take_of_length_le (by omega)]at hz;refine⟨xs,⟨_,cap,by rw [h1],SlD.intro hb (by omega) hm h2 h3⟩,?_⟩;simp only [uptoBulk];omega
end
end Go.VC
namespace Go.Proofs.YtlnmhfhdjnenoaaGreatDoor
open Go.VC Go
def Nv(a b c d:Nat):BitVec 256:=BitVec.ofNat 256 (a+2 ^ 64*(b+2 ^ 64*(c+2 ^ 64*d)))
theorem Ut{a b c d:Nat}(ha:a<2 ^ 64)(hb:b<2 ^ 64)(hc:c<2 ^ 64)(hd:d<2 ^ 64):wd (Nv a b c d) 0=a∧wd (Nv a b c d) 1=b∧wd (Nv a b c d) 2=c∧wd (Nv a b c d) 3=d:=by
 have h:(Nv a b c d).toNat=a+2 ^ 64*(b+2 ^ 64*(c+2 ^ 64*d)):=by
  unfold Nv;rw [BitVec.toNat_ofNat];exact Nat.mod_eq_of_lt (by omega)
 unfold wd;simp only [h,Nat.shiftRight_eq_div_pow];refine⟨?_,?_,?_,?_⟩<;>omega
theorem OW{H:Type}{enc:TypeId×Value→H}{P:Program}{W:World}{t e:TypeId}(ht:P.underlying t=some (.array 4 e))(he:P.underlying e=some (.int .u64))(hc:P.cellsOf e=1)(h4:P.cellsOf t=4):Kq enc P W UJ (fun _=>1) t:=by
 intro fuel cs d ps h;obtain⟨xs,m,rfl,hd,hl,hx,hg⟩:=DataW.trod_array ht h;cases hd;rw [h4]at hl;rw [hc]at hg
 match cs,hl with
 | [c0,c1,c2,c3],_=>
   have one:∀(i:Nat) (c:Value),i<4→([c0,c1,c2,c3].drop (i*1)).take 1=[c]→∃n:Nat,c= .int .u64 (n:Int)∧n<2 ^ 64:=by
    intro i c hi hd;have:=hg i hi;rw [hd,UR (by omega)]at this;obtain⟨n,h1,-,hw⟩:=DataW.trod_int he this;cases h1;simp only [Lit.wf,Vo,decide_eq_true_eq]at hw;have m0:IntKind.u64.min=0:=rfl;have m1:IntKind.u64.max=18446744073709551615:=rfl;obtain⟨k,rfl⟩:=Int.eq_ofNat_of_zero_le (show 0≤n by omega);exact⟨k,rfl,by omega⟩
   obtain⟨n0,rfl,b0⟩:=one 0 c0 (by decide) rfl;obtain⟨n1,rfl,b1⟩:=one 1 c1 (by decide) rfl;obtain⟨n2,rfl,b2⟩:=one 2 c2 (by decide) rfl;obtain⟨n3,rfl,b3⟩:=one 3 c3 (by decide) rfl;obtain⟨w0,w1,w2,w3⟩:=Ut b0 b1 b2 b3;refine⟨Nv n0 n1 n2 n3,?_,by simp [Rows.uptoBulk]⟩;show _=Ak _;unfold Ak;rw [w0,w1,w2,w3]
end Go.Proofs.YtlnmhfhdjnenoaaGreatDoor
namespace Go.VC
open Go.ChangeShapes Go.WideShapes Go.ChangeAt Go.RowKit
theorem Mp{W W':World}{may:MemPlace→Prop}(he:Env W W')(h:Agr (Old W.heap) W.heap W'.heap):W.keptBut W' may:=by
 refine⟨he.os,he.output,fun i hi=>?_⟩;rw [h i hi];split<;>simp_all
theorem Ki{W W':World}(h:Agr (Old W.heap) W.heap W'.heap)(a:Addr)(ha:a.block<W.heap.size):W'.frozen? a=W.frozen? a:=by
 unfold World.frozen?;rw [h a.block ha]
theorem Kl{W W':World}(h:Agr (Old W.heap) W.heap W'.heap):∀p:MemPlace,p.block<W.heap.size→W.sameAt W' p
 | .cell b o,hb=>by
   show W'.cell? ⟨b,o,none⟩=W.cell? ⟨b,o,none⟩;rw [Fu,Fu];exact Je (h b hb)
 | .map b,hb=>h b hb
section
variable{H:Type}{enc:TypeId×Value→H}{P:Program}
theorem LU{W W':World}{sp:Nat→Bool}(hl:laidOutB P=true)(ha:Agr (Old W.heap) W.heap W'.heap):∀{ts:List TypeId} {vs:List Value} {ds:List (DataW H)} {ps:List MemPlace},(∀t∈ts,P.readableRec t=true∧t<P.types.size)→
  DataW.TrodAll enc P W 0 (fun _=>true) true ts vs ds ps→(∀p∈ps,p.block<W.heap.size)→(∀p∈ps,sp p.block=true)→DataW.TrodAll enc P W' 0 sp true ts vs ds ps
 | [],vs,ds,ps,_,h,_,_=>by
   obtain⟨rfl,rfl,rfl⟩:=trodAll_nil h;exact trodAll_mk0
 | t::ts,vs,ds,ps,ht,h,hlt,hsp=>by
   obtain⟨v,vs',d,ds',p,q,rfl,rfl,rfl,h1,h2⟩:=trodAll_cons h;have ht0:=ht t List.mem_cons_self;exact trodAll_cons_mk (WideElems.Trod_stays hl ht0.1 ht0.2 h1 (fun x hx=>Kl ha x (hlt x (Vg _ hx))) fun x hx=>hsp x (Vg _ hx))
    (LU hl ha (fun x hx=>ht x (List.mem_cons_of_mem _ hx)) h2 (fun x hx=>hlt x (Vf _ hx)) fun x hx=>hsp x (Vf _ hx))
theorem Tr{w:World}{base:Nat}{sp:Nat→Bool}{hd:Bool}{t:TypeId}{b:Bool}(h:P.underlying t=some .bool):DataW.Trod enc P w base sp hd t (.bool b) (.lit (.bool b)) []:=⟨1,by simp [DataW.trod,Value.cells,h]⟩
theorem Pg{f:Func}{s:ChangeSpec}{apart fresh handsOn again:Bool}{W W':World}{args:Array Value}{ds gs:List (DataW H)}{before:List MemPlace}{bt:TypeId}
  (hW:DataW.Whole enc P f.params.toList s.vars apart W args.toList ds gs before) (hv:s.vars=[]) (hfn:(s.fn H (ds++gs)).results=[.lit (.bool true)]∧(s.fn H (ds++gs)).args=ds∧(s.fn H (ds++gs)).vars=[])
  (hl:laidOutB P=true) (hp:f.params.toList.all (fun t=>P.readableRec t&&decide (t<P.types.size))=true) (hr:f.resultTypes= #[bt]) (hu:P.underlying bt=some .bool)
  (he:Env W W') (ha:Agr (Old W.heap) W.heap W'.heap):s.post enc P f apart fresh handsOn again W args (.bool true) W':=by
 have hlt:=hW.lt;have hW':=hW;obtain⟨pa,pv,hA,hV,hbe,hz,hn⟩:=hW;rw [hv]at hV;obtain⟨rfl,rfl⟩:=trodVars_none hV;rw [Vr]at hbe;subst hbe;obtain⟨hres,hargs,hvars⟩:=hfn;have hk:W.keptBut W' (fun _=>False):=Mp he ha;have hpp:∀t∈f.params.toList,P.readableRec t=true∧t<P.types.size:=fun t ht=>by
  have:=UQ.1 hp t ht;simpa using this
 have hst:∀sp:Nat→Bool,(∀p∈before,sp p.block=true)→DataW.TrodAll enc P W' 0 sp true f.params.toList args.toList (s.fn H (ds++[])).args before:=fun sp hsp=>by
  rw [hargs];exact LU hl ha hpp hA hlt hsp
 have hrs:∀(b:Nat) (sp:Nat→Bool) (hd:Bool),DataW.TrodAll enc P W' b sp hd f.resultTypes.toList ((Value.bool true).resultList f.resultTypes.size) (s.fn H (ds++[])).results []:=fun b sp hd=>by
  rw [hres,hr];exact trodAll_mk1 (Tr hu)
 have hvs:∀sp:Nat→Bool,DataW.TrodVars enc P W' sp s.vars (s.fn H (ds++[])).vars []:=fun sp=>by
  rw [hvars,hv];rfl
 have hok:∀(j:Nat) (t:TypeId) (r:Value),f.resultTypes[j]? =some t→((Value.bool true).resultList f.resultTypes.size)[j]? =some r→Value.okWide P W' .any 0 t r:=ok_one hr rfl (okWide_bool_mk hu true);refine⟨ds,[],before,[],before,[],hW',hrs _ _ _,hst _ (fun p hp=>decide_eq_true (hlt p hp)),hvs _,World.keptBut_mono (fun p hp=>hp.elim) hk,fun _=>?_⟩;refine⟨hok,_,_,([]++before)++[],⟨[]++before,[],trodAll_append (hst _ (fun _ _=>rfl)) (hrs _ _ _),hvs _,rfl,?_,?_⟩,?_⟩
 ·intro b off hp;simp only [Vp,Vr]at hp;rw [Ki ha _ (hlt _ hp)];exact hz b off hp
 ·intro hap;have:=hn hap;simpa using this
 ·intro p hp _;simpa using hp
end
end Go.VC
namespace Go.Proofs.YtlnmhfhdjnenoaaGreatDoor
open Go.VC Go
theorem UD:ownKnob Tryz.prog.godebug=none:=by kernel_rfl
theorem Ub:laidOutB Tryz.prog=true:=by kernel_rfl
theorem QH{H:Type}{ds:List (DataW H)}(h:Rows.uptoSmall H ds=true):Rows.uptoBulkAll ds≤1048576:=by simpa [Rows.uptoSmall]using h
section
variable{H:Type}{enc:TypeId×Value→H}{W:World}
theorem OX:Kq enc Tryz.prog W tEd (fun _=>1) 59:=by
 intro fuel cs d ps h;obtain⟨xs,m,rfl,hd,hl,hx,hg⟩:=DataW.trod_struct Tryz.underlying59 h;cases hd;have h7:Tryz.prog.cellsOf 59=7:=by kernel_rfl
 have k1:Tryz.prog.cellsOf 3=1:=by kernel_rfl
 have k2:Tryz.prog.cellsOf 4=1:=by kernel_rfl
 have k3:Tryz.prog.cellsOf 57=4:=by kernel_rfl
 have k4:Tryz.prog.cellsOf 56=1:=by kernel_rfl
 rw [h7]at hl;have hx4:xs.length=4:=hx
 match cs,hl,xs,hx4 with
 | [c0,c1,c2,c3,c4,c5,c6],_,[x0,x1,x2,x3],_=>
   have g0:DataW.trod enc Tryz.prog W 0 (fun _=>true) true m 3 (UX (Tryz.prog.cellsOf 3) [c0,c1,c2,c3,c4,c5,c6])=some x0:=hg 0 _ rfl;have g1:DataW.trod enc Tryz.prog W 0 (fun _=>true) true m 3 (UX (Tryz.prog.cellsOf 3) [c1,c2,c3,c4,c5,c6])=some x1:=hg 1 _ rfl;have g2:DataW.trod enc Tryz.prog W 0 (fun _=>true) true m 4 (UX (Tryz.prog.cellsOf 4) [c2,c3,c4,c5,c6])=some x2:=hg 2 _ rfl;have g3:DataW.trod enc Tryz.prog W 0 (fun _=>true) true m 57 (UX (Tryz.prog.cellsOf 57) [c3,c4,c5,c6])=some x3:=hg 3 _ rfl;rw [k1]at g0 g1;rw [k2]at g2;rw [k3]at g3;obtain⟨n0,⟨e0,o0⟩,-⟩:=F6 Tryz.underlying3 _ _ _ _ g0;obtain⟨n1,⟨e1,o1⟩,-⟩:=F6 Tryz.underlying3 _ _ _ _ g1;obtain⟨b2,e2,-⟩:=Nw Tryz.underlying4 _ _ _ _ g2;obtain⟨s3,e3,-⟩:=OW Tryz.underlying57 Tryz.underlying56 k4 k3 _ _ _ _ g3;cases e0;cases e1;cases e2;cases e3;exact⟨⟨n0,n1,b2,s3⟩,⟨rfl,o0,o1⟩,by simp [Rows.uptoBulk]⟩
theorem Qq{base:Nat}{v:Value}{d:DataW H}{ps:List MemPlace}(hval:Value.okWide Tryz.prog W .any base 53 v)(h:DataW.Trod enc Tryz.prog W 0 (fun _=>true) true 53 v d ps)(hb:Rows.uptoBulk d≤1048576):
  ∃a,NfV (InW W) W.heap v a∧a.edges.length≤Rows.uptoBulk d:=by
 obtain⟨fuel,h⟩:=h;have hu:=Tryz.underlying53;obtain⟨xs,m,rfl,hd,hl,hx,hg⟩:=DataW.trod_struct hu h;cases hd;have h4:Tryz.prog.cellsOf 53=4:=by kernel_rfl
 simp only [Value.okWide,hu]at hval;obtain⟨cs,rfl,hsz,-⟩:=hval;rw [h4]at hsz;obtain⟨l⟩:=cs
 match l,hsz with
 | [c0,c1,c2,c3],_=>
   have k1:Tryz.prog.cellsOf 3=1:=by kernel_rfl
   have k2:Tryz.prog.cellsOf 51=1:=by kernel_rfl
   have k3:Tryz.prog.cellsOf 59=tEd.size:=by kernel_rfl
   have hx4:xs.length=4:=hx
   match xs,hx4 with
   | [x0,x1,x2,x3],_=>
     have g0:DataW.trod enc Tryz.prog W 0 (fun _=>true) true m 3 (UX (Tryz.prog.cellsOf 3) [c0,c1,c2,c3])=some x0:=hg 0 _ rfl;have g1:DataW.trod enc Tryz.prog W 0 (fun _=>true) true m 3 (UX (Tryz.prog.cellsOf 3) [c1,c2,c3])=some x1:=hg 1 _ rfl;have g2:DataW.trod enc Tryz.prog W 0 (fun _=>true) true m 3 (UX (Tryz.prog.cellsOf 3) [c2,c3])=some x2:=hg 2 _ rfl;have g3:DataW.trod enc Tryz.prog W 0 (fun _=>true) true m 51 (UX (Tryz.prog.cellsOf 51) [c3])=some x3:=hg 3 _ rfl;rw [k1]at g0 g1 g2;rw [k2]at g3;obtain⟨n0,⟨e0,o0⟩,-⟩:=F6 Tryz.underlying3 _ _ _ _ g0;obtain⟨n1,⟨e1,o1⟩,-⟩:=F6 Tryz.underlying3 _ _ _ _ g1;obtain⟨n2,⟨e2,o2⟩,-⟩:=F6 Tryz.underlying3 _ _ _ _ g2;obtain⟨es,⟨ea,ec,e3,he⟩,z3⟩:=Mz Tryz.underlying51 k3 (by decide) OX _ _ _ _ g3;cases e0;cases e1;cases e2;cases e3;have b1:=ALq (sz:=fun _:EdM=>1) (fun _=>UL _) es;simp only [Vu,List.map_nil,Rows.uptoBulk,Rows.uptoBulkAll]at hb ⊢;exact⟨⟨n0,n1,n2,es⟩,⟨⟨o0,o1,o2⟩,by simp only;omega,ea,ec,rfl,he⟩,by simp only;omega⟩
end
end Go.Proofs.YtlnmhfhdjnenoaaGreatDoor
