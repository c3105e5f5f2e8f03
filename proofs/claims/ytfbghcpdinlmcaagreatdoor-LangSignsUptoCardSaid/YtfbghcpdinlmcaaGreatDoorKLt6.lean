/- Parts of the proof: PTre, VPan, VDef, VList, PRd1, PPa1, PDp1, PDBl, PSpk04, PNfa7, PDTx, VElem, PDp2, PPa2, PPa3 -/
import Derived.Test.YtfbghcpdinlmcaaGreatDoorKLt5
import Derived.Test.YtfbghcpdinlmcaaGreatDoorKLt2
import Derived.Recover
import Derived.Test.YtfbghcpdinlmcaaGreatDoorKLt1
import Derived.Test.YtfbghcpdinlmcaaGreatDoorKLt4
set_option maxHeartbeats 64000000
open Array renaming replicate → AbV, getElem?_eq_getElem → AbX, toList_map → Ad0, map → Ad7
open Bool renaming and_eq_true → Ac3, not_eq_true' → AcO, or_eq_true → Ad3
open Int renaming toNat_natCast → AcZ
open List renaming getElem?_eq_some_iff → AaS, getElem?_append_right → AaT, replicate → AaU, getElem?_set_ne → Ab8, getElem?_append_left → AbD, mem_append_left → AbH, getElem?_set_self → AbM, size_toArray → AbW, length_singleton → AbY, toList_toArray → Ac4, set_set → Ac5, length_append → Ac8, ext_getElem? → AcF, all_eq_true → AcK, pairwise_append → AcL, drop_length_add_append → AcM, getD_eq_getElem?_getD → AcN, getElem?_eq_getElem → AcQ, getElem?_eq_none → AcR, length_replicate → AcS, set_append_right → AcT, mem_cons_of_mem → AcU, set_append_left → AcV, mem_cons_self → AcW, append_assoc → AcY, all_append → Ad2, append_nil → Ad4, length_set → Ad5, mapM_cons → Ad6
open Nat renaming le_refl → AaV, lt_succ_self → AbK, sub_self → AcP, zero_add → AcX, le_add_right → Ad1
set_option linter.unusedVariables false
set_option linter.unusedSimpArgs false
set_option maxRecDepth 100000
namespace Go.Proofs.YtfbghcpdinlmcaaGreatDoor
open Go.VC
structure RnM where
 op:Int
 set:BitVec 256
 l:Int
 r:Int
 m:Int
 n:Int
def Bn(op:Value)(bits:List Value)(a b m n:Value):List Value:=[op]++(bits++[a,b,m,n])
def rnL(d:RnM):List Value:=Bn (.int .i64 d.op) (A0 d.set) (.int .i64 d.l) (.int .i64 d.r) (.int .i64 d.m) (.int .i64 d.n)
theorem AQ(d:RnM):(rnL d).length=261:=by
 unfold rnL Bn;simp [Aq]
theorem DV(d:RnM):(rnL d)[0]? =some (.int .i64 d.op):=rfl
theorem IM(d:RnM):(rnL d)[257]? =some (.int .i64 d.l):=by
 unfold rnL Bn;rw [AaT (by simp),AaT (by simp [Aq])];simp [Aq]
theorem QS(d:RnM):(rnL d)[258]? =some (.int .i64 d.r):=by
 unfold rnL Bn;rw [AaT (by simp),AaT (by simp [Aq])];simp [Aq]
theorem W4(d:RnM):∀(j:Nat) (v:Value),(A0 d.set)[j]? =some v→(rnL d)[1+j]? =some v:=by
 intro j v h;have hj:j<256:=by have:=(AaS.1 h).1;rwa [Aq]at this
 unfold rnL Bn;rw [AaT (by simp),AbD (by rw [Aq];simp;omega)];simpa using h
def RnM.Ok(d:RnM):Prop:=inK .i64 d.op∧inK .i64 d.l∧inK .i64 d.r∧inK .i64 d.m∧inK .i64 d.n
def tRn:Ty RnM where
 size:=261
 rep _ _ cs d:=cs=rnL d∧d.Ok
 len h:=by rw [h.1];exact AQ _
 frame h _:=h
 mono h _:=h
theorem CQ(d:RnM):(rnL d).all (·.oneCell')=true:=by
 unfold rnL Bn;rw [Ad2,Ad2,A0,N6];rfl
def rnZ:List Value:=Bn (.int .i64 0) (AaU 256 (.bool false)) (.int .i64 0) (.int .i64 0) (.int .i64 0) (.int .i64 0)
theorem CD:rnZ.length=261:=by simp [rnZ,Bn]
theorem N0:(Tryz.prog.info? 159).bind (·.zero)=some (.agg rnZ.toArray):=by kernel_rfl
theorem Mn:A0 0#256=AaU 256 (.bool false):=by
 apply AcF;intro i;by_cases hi:i<256
 ·rw [TV _ hi,List.getElem?_replicate,if_pos hi];simp
 ·rw [AcR (by rw [Aq];omega),AcR (by simp;omega)]
section
variable{op op' a a' b b' m n:Value}{bits bits':List Value}
theorem W8:Ai (Bn op bits a b m n) 0 [op']=Bn op' bits a b m n:=rfl
theorem Aa2(h:bits.length=256)(h':bits'.length=256):Ai (Bn op bits a b m n) 1 bits'=Bn op bits' a b m n:=by
 unfold Ai Bn;rw [show([op]++(bits++[a,b,m,n])).take 1=[op]from rfl,h',show 1+256=256+1 by omega,show([op]++(bits++[a,b,m,n])).drop (256+1)=(bits++[a,b,m,n]).drop 256 from rfl,List.drop_left' h,AcY]
theorem rs_l(h:bits.length=256):Ai (Bn op bits a b m n) 257 [a']=Bn op bits a' b m n:=by
 unfold Ai Bn;have e1:([op]++(bits++[a,b,m,n])).take 257=[op]++bits:=by
  rw [show([op]++(bits++[a,b,m,n])).take (256+1)=op::(bits++[a,b,m,n]).take 256 from rfl,List.take_left' h];rfl
 have e2:([op]++(bits++[a,b,m,n])).drop (257+1)=[b,m,n]:=by
  rw [show([op]++(bits++[a,b,m,n])).drop (257+1)=(bits++[a,b,m,n]).drop 257 from rfl,show(257:Nat)=bits.length+1 by omega,AcM];rfl
 rw [e1,show 257+[a'].length=257+1 from rfl,e2];simp
theorem rs_r(h:bits.length=256):Ai (Bn op bits a b m n) 258 [b']=Bn op bits a b' m n:=by
 unfold Ai Bn;have e1:([op]++(bits++[a,b,m,n])).take 258=[op]++(bits++[a]):=by
  rw [show([op]++(bits++[a,b,m,n])).take (257+1)=op::(bits++[a,b,m,n]).take 257 from rfl,show(257:Nat)=bits.length+1 by omega,List.take_length_add_append];rfl
 have e2:([op]++(bits++[a,b,m,n])).drop (258+1)=[m,n]:=by
  rw [show([op]++(bits++[a,b,m,n])).drop (258+1)=(bits++[a,b,m,n]).drop 258 from rfl,show(258:Nat)=bits.length+2 by omega,AcM];rfl
 rw [e1,show 258+[b'].length=258+1 from rfl,e2];simp
theorem El(h:bits.length=256):(Bn op bits a b m n).length=261:=by unfold Bn;simp [h]
end
theorem KH(x:Int)(s:BitVec 256){S:Nat→Prop}{H:Aa}{K:Value→Prop}(k:K (.agg (rnL ⟨x,s,0,0,0,0⟩).toArray)):
  AJ Tryz.prog (Instr.build 159 [(0,.int .i64 x),(1,.agg (A0 s).toArray)].toArray) S H K:=by
 refine Aw Tryz.underlying159 rfl (.agg rnZ.toArray) N0 (rnL ⟨x,s,0,0,0,0⟩) ?_ k;have hr:(AaU 256 (Value.bool false)).length=256:=AcS;refine(Dp (i:=0) (off:=0) (size:=1) (by kernel_rfl) rfl (by show _≤rnZ.toArray.size;rw [AbW,CD];decide)).trans ?_;have e0:Ai (Value.agg rnZ.toArray).cells.toList 0 (Value.int .i64 x).cells.toList=Bn (.int .i64 x) (AaU 256 (.bool false)) (.int .i64 0) (.int .i64 0) (.int .i64 0) (.int .i64 0):=W8;rw [e0];have ec:(Value.agg (A0 s).toArray).cells=(A0 s).toArray:=rfl;refine(Dp (i:=1) (off:=1) (size:=256) (by kernel_rfl) (by rw [ec,AbW,Aq]) (by rw [AbW,El hr];decide)).trans ?_;rw [ec,Ac4,Ac4,Aa2 hr (Aq s)];rfl
theorem Om(x y z:Int){S:Nat→Prop}{H:Aa}{K:Value→Prop}(k:K (.agg (rnL ⟨x,0#256,y,z,0,0⟩).toArray)):
  AJ Tryz.prog (Instr.build 159 [(0,.int .i64 x),(2,.int .i64 y),(3,.int .i64 z)].toArray) S H K:=by
 refine Aw Tryz.underlying159 rfl (.agg rnZ.toArray) N0 (rnL ⟨x,0#256,y,z,0,0⟩) ?_ k;have hr:(AaU 256 (Value.bool false)).length=256:=AcS;refine(Dp (i:=0) (off:=0) (size:=1) (by kernel_rfl) rfl (by show _≤rnZ.toArray.size;rw [AbW,CD];decide)).trans ?_;have e0:Ai (Value.agg rnZ.toArray).cells.toList 0 (Value.int .i64 x).cells.toList=Bn (.int .i64 x) (AaU 256 (.bool false)) (.int .i64 0) (.int .i64 0) (.int .i64 0) (.int .i64 0):=W8;rw [e0];refine(Dp (i:=2) (off:=257) (size:=1) (by kernel_rfl) rfl (by rw [AbW,El hr];decide)).trans ?_;rw [Ac4,show(Value.int IntKind.i64 y).cells.toList=[Value.int .i64 y]from rfl,rs_l hr];refine(Dp (i:=3) (off:=258) (size:=1) (by kernel_rfl) rfl (by rw [AbW,El hr];decide)).trans ?_;rw [Ac4,show(Value.int IntKind.i64 z).cells.toList=[Value.int .i64 z]from rfl,rs_r hr];unfold rnL;rw [show(RnM.mk x 0#256 y z 0 0).set=0#256 from rfl,Mn];rfl
def Cv(ns:List RnM):ReM→Nat→Prop
 | .eps,i=>∃d,ns[i]? =some d∧d.op=0
 | .cls s,i=>∃d,ns[i]? =some d∧d.op=1∧d.set=s
 | .cat a b,i=>∃d j k:_,ns[i]? =some d∧d.op=2∧d.l=((j:Nat):Int)∧d.r=((k:Nat):Int)∧Cv ns a j∧Cv ns b k
 | .alt a b,i=>∃d j k:_,ns[i]? =some d∧d.op=3∧d.l=((j:Nat):Int)∧d.r=((k:Nat):Int)∧Cv ns a j∧Cv ns b k
 | .star a,i=>∃d j:_,ns[i]? =some d∧d.op=4∧d.l=((j:Nat):Int)∧Cv ns a j
 | .and_ a b,i=>∃d j k:_,ns[i]? =some d∧d.op=5∧d.l=((j:Nat):Int)∧d.r=((k:Nat):Int)∧Cv ns a j∧Cv ns b k
 | .minus a b,i=>∃d j k:_,ns[i]? =some d∧d.op=6∧d.l=((j:Nat):Int)∧d.r=((k:Nat):Int)∧Cv ns a j∧Cv ns b k
theorem GP{α:Type}{l m:List α}{i:Nat}{x:α}(h:l[i]? =some x):(l++m)[i]? =some x:=by
 rw [AbD (AaS.1 h).1];exact h
theorem Cv.more{ns ms:List RnM}:∀{r:ReM} {i:Nat},Cv ns r i→Cv (ns++ms) r i
 | .eps,_,⟨d,h1,h2⟩=>⟨d,GP h1,h2⟩
 | .cls _,_,⟨d,h1,h2⟩=>⟨d,GP h1,h2⟩
 | .cat a b,_,⟨d,j,k,h1,h2,h3,h4,h5,h6⟩=>⟨d,j,k,GP h1,h2,h3,h4,h5.more,h6.more⟩
 | .alt a b,_,⟨d,j,k,h1,h2,h3,h4,h5,h6⟩=>⟨d,j,k,GP h1,h2,h3,h4,h5.more,h6.more⟩
 | .star a,_,⟨d,j,h1,h2,h3,h5⟩=>⟨d,j,GP h1,h2,h3,h5.more⟩
 | .and_ a b,_,⟨d,j,k,h1,h2,h3,h4,h5,h6⟩=>⟨d,j,k,GP h1,h2,h3,h4,h5.more,h6.more⟩
 | .minus a b,_,⟨d,j,k,h1,h2,h3,h4,h5,h6⟩=>⟨d,j,k,GP h1,h2,h3,h4,h5.more,h6.more⟩
def reL(v:Value)(AR:Int):List Value:=[v,.int .i64 AR]
section
variable{S S':Nat→Prop}{H H':Aa}{v:Value}{ns:List RnM}{AR:Int}
end
end Go.Proofs.YtfbghcpdinlmcaaGreatDoor
namespace Go.VC
abbrev pe(x:Value):List PanicEntry:=[{v:=x,recovered:=false}]
def SD(R E:Value→Aa→Prop):Ending→Aa→Prop
 | .returned v,H=>R v H
 | .panicked c,H=>∃x,c=pe x∧E x H
 | .outgrown,_=>False
theorem SD.mono{R R' E E':Value→Aa→Prop}{e:Ending}{H:Aa}(h:SD R E e H)(hr:∀v H,R v H→R' v H)(he:∀v H,E v H→E' v H):SD R' E' e H:=by
 cases e with
 | returned v=>exact hr v H h
 | panicked c=>obtain⟨x,h1,h2⟩:=h;exact⟨x,h1,he x H h2⟩
 | outgrown=>exact h
def BW(P:Program)(f:FuncId)(args:Array Value)(H:Aa)(R E:Value→Aa→Prop):Prop:=
 ∀w:World,w.heap=H→(callFunc f args).run P w= .ok (.enter f args) w∧Calls P f args w fun e w'=>Env w w'∧SD R E e w'.heap
theorem BW.mono{P:Program}{f:FuncId}{args:Array Value}{H:Aa}{R R' E E':Value→Aa→Prop}(h:BW P f args H R E)(hr:∀v H,R v H→R' v H)(he:∀v H,E v H→E' v H):BW P f args H R' E':=fun w hw=>
 ⟨(h w hw).1,(h w hw).2.mono fun e w' ⟨h1,h2⟩=>⟨h1,h2.mono hr he⟩⟩
theorem Al.pan{P:Program}{f:FuncId}{args:Array Value}{H:Aa}{R E:Value→Aa→Prop}(h:Al P f args H R):BW P f args H R E:=fun w hw=>
 ⟨(h w hw).1,(h w hw).2.mono fun e w' ⟨v,he,h1,h2⟩=>by subst he;exact⟨h1,h2⟩⟩
structure Ah(P:Program)(f:FuncId)(args:Array Value)(H:Aa)(K E:Value→Aa→Prop):Prop where
 in_::
 out_:BW P f args H K E
theorem Ah.mk{P:Program}{f:FuncId}{args:Array Value}{H:Aa}{K R E E':Value→Aa→Prop}(h:BW P f args H R E')(k:∀v H',R v H'→K v H')(e:∀v H',E' v H'→E v H'):Ah P f args H K E:=
 ⟨h.mono k e⟩
theorem Ah.of{P:Program}{f:FuncId}{args:Array Value}{H:Aa}{K E:Value→Aa→Prop}(h:Ad P f args H K):Ah P f args H K E:=⟨h.out_.pan⟩
structure AtX(ds:List Deferred)(fr:Fr)(a:Act):Prop where
 tmps:a.tmps.toList=fr
 defers:a.defers=ds
theorem AtX.at_{fr:Fr}{a:Act}(h:AtX [] fr a):At fr a:=⟨h.tmps,h.defers⟩
theorem AtX.bare{ds:List Deferred}{fr:Fr}{a:Act}(h:AtX ds fr a):At fr {tmps:=a.tmps,defers:=[]}:=⟨h.tmps,rfl⟩
theorem AtX.evalF{ds:List Deferred}{fr:Fr}{a:Act}(h:AtX ds fr a):a.eval=evF fr:=by
 rw [←h.bare.evalF];funext x;cases x<;>rfl
theorem AtX.put{ds:List Deferred}{fr:Fr}{a:Act}(h:AtX ds fr a)(dst:Option Tmp)(v:Value):AtX ds (match dst with | none=>fr | some d=>fr.set d v) (a.put dst v):=by
 obtain⟨rfl,h2⟩:=h;cases dst with
 | none=>exact⟨rfl,h2⟩
 | some d=>exact⟨by simp [Act.put],h2⟩
theorem Yu{a:Act}{dst:Option Tmp}{v v':Value}(h:({tmps:=a.tmps,defers:=[]}:Act).put dst v=({tmps:=a.tmps,defers:=[]}:Act).put dst v'):a.put dst v=a.put dst v':=by
 cases dst with
 | none=>rfl
 | some d=>
   have:=congrArg Act.tmps h;simp only [Act.put]at this ⊢;rw [this]
def Va(P:Program)(o:Oper)(a:Act)(w:World)(K E:Value→Aa→Prop):Prop:=
 ∀Q:Exit→Act→World→Prop,(∀x w',Env w w'→E x w'.heap→Q (.panic (pe x)) a w')→o.wp P a w (fun a' w'=>∃v,a'=a.put o.dst v∧Env w w'∧K v w'.heap) Q
theorem ZV{P:Program}{o:Oper}{a:Act}{w:World}{K E:Value→Aa→Prop}(h:R0 P o {tmps:=a.tmps,defers:=[]} w K):Va P o a w K E:=by
 intro Q _;have h1:=h (fun e _ w=>Q e a w);unfold Oper.wp at h1 ⊢;have ev:({tmps:=a.tmps,defers:=[]}:Act).eval=a.eval:=by funext x;cases x<;>rfl
 rw [ev]at h1;revert h1;generalize (execOp a.eval o).run P w=r;intro h1;cases r with
 | ok nx w'=>
   cases nx with
   | value v=>
     obtain⟨v',e,h2,h3⟩:=h1;exact⟨v',Yu e,h2,h3⟩
   | skip=>
     obtain⟨v',e,h2,h3⟩:=h1;exact⟨v',Yu e,h2,h3⟩
   | defer d=>
     obtain⟨v',e,h2,h3⟩:=h1;have:=congrArg Act.defers e;cases hdst:o.dst<;>rw [hdst]at this<;>simp [Act.put]at this
   | enter f args=>
     refine Calls.mono h1 ?_;intro e w'' h2;cases e with
     | returned v=>
       obtain⟨v',e,h3,h4⟩:=h2;exact⟨v',Yu e,h3,h4⟩
     | panicked c=>exact h2
     | outgrown=>obtain⟨_,w,h3⟩:=h2;exact⟨a,w,h3⟩
   | row row args=>
     refine Rows.mono h1 ?_;intro v w'' h2;obtain⟨v',e,h3,h4⟩:=h2;exact⟨v',Yu e,h3,h4⟩
   | _=>exact h1.elim
 | halt s w'=>
   cases s<;>first | exact h1 | exact h1.elim
def V1(P:Program)(f:Value)(args:List Value)(H:Aa)(K E:Value→Aa→Prop):Prop:=
 match f with
 | .func (.func g) first cap=>Ah P g (first.toList++args++cap.toList).toArray H K E
 | _=>False
def QL(P:Program)(o:Oper)(fr:Fr)(H:Aa)(K:Value→Aa→Prop)(E:Fr→Value→Aa→Prop):Prop:=
 match o.op with
 | .panic x=>evK fr x fun v=>match v with
   | .iface t y=>E fr (.iface t y) H
   | _=>False
 | .call {callee:=.value f,args, .. }=>evK fr f fun g=>Hb fr args.toList fun vs=>V1 P g vs H K (E fr)
 | _=>opK P false (fun _=>True) o fr H K
theorem Ah.out{P:Program}{f:FuncId}{args:Array Value}{H:Aa}{K E:Value→Aa→Prop}(h:Ah P f args H K E):BW P f args H K E:=by exact h.out_
theorem FQ{P:Program}{o:Oper}{ds:List Deferred}{fr:Fr}{a:Act}{w:World}{K:Value→Aa→Prop}{E:Fr→Value→Aa→Prop}(hat:AtX ds fr a)(h:QL P o fr w.heap K E):Va P o a w K (E fr):=by
 unfold QL at h;split at h
 ·rename_i x ho;rw [HT]at h;split at h
  ·rename_i t y hx;intro Q hq;have:(execOp a.eval o).run P w= .halt (.panic (.iface t y)) w:=by
    rw [hat.evalF];simp only [execOp,ho,hx];simp [Instr.panic,goPanic]
   unfold Oper.wp;rw [this];exact hq _ w (Env.refl w) h
  ·exact h.elim
 ·rename_i f args argTypes ho;simp only [HT,I4,←Ad0]at h;unfold V1 at h;split at h
  ·rename_i g first cap hg
   intro Q hq;have e:(first.toList++(Ad7 (evF fr) args).toList++cap.toList).toArray=first++Ad7 (evF fr) args++cap:=Array.ext' (by simp)
   have h':=h.out;rw [e]at h';have h1:(execOp a.eval o).run P w=(callFunc g (first++Ad7 (evF fr) args++cap)).run P w:=by
    rw [hat.evalF];simp only [execOp,ho,resolve,hg,Deferred.ofValue];simp [invoke]
   unfold Oper.wp;rw [h1,(h' w rfl).1];refine(h' w rfl).2.mono ?_;intro e w' ⟨henv,hk⟩;cases e with
   | returned v=>exact⟨v,rfl,henv,hk⟩
   | panicked c=>
     obtain⟨x,rfl,hx⟩:=hk;exact hq x w' henv hx
   | outgrown=>exact hk.elim
  ·exact h.elim
 ·exact ZV (Dq hat.bare h)
def Pi(P:Program)(o:Oper)(want:Bool)(t:Nat)(fr:Fr)(H:Aa)(K:Fr→Aa→Prop)(E:Fr→Value→Aa→Prop):Prop:=
 rdK fr t fun v=>match v with
  | .bool b=>AN b
    (wrK fr t (.bool true) fun fr1=>match want with
     | true=>QL P o fr1 H (fun v H'=>CL o.dst fr1 v fun fr'=>apK K fr' H') E
     | false=>CL o.dst fr1 undef fun fr'=>apK K fr' H)
    (wrK fr t (.bool false) fun fr1=>match want with
     | false=>QL P o fr1 H (fun v H'=>CL o.dst fr1 v fun fr'=>apK K fr' H') E
     | true=>CL o.dst fr1 undef fun fr'=>apK K fr' H)
  | .tuple _=>CL o.dst fr undef fun fr'=>apK K fr' H
  | _=>False
def Lb(P:Program)(all:List Oper)(E:Fr→Value→Aa→Prop)(l:List Oper):Fr→Aa→(Fr→Aa→Prop)→Prop:=
 List.rec (motive:=fun _=>Fr→Aa→(Fr→Aa→Prop)→Prop) (fun fr H K=>K fr H) (fun o _ ih fr H K=>
  match o.guard with
  | none=>QL P o fr H (fun v H'=>CL o.dst fr v fun fr'=>ih fr' H' K) E
  | some (j,want)=>match(all[j]?).bind (·.dst)with
    | none=>False
    | some t=>Pi P o want t fr H (fun fr' H'=>ih fr' H' K) E) l
theorem Sk(P:Program)(all rest:List Oper)(o:Oper)(E:Fr→Value→Aa→Prop)(fr:Fr)(H:Aa)(K:Fr→Aa→Prop):Lb P all E (o::rest) fr H K=
  (match o.guard with
  | none=>QL P o fr H (fun v H'=>CL o.dst fr v fun fr'=>Lb P all E rest fr' H' K) E
  | some (j,want)=>match(all[j]?).bind (·.dst)with
    | none=>False
    | some t=>Pi P o want t fr H (fun fr' H'=>Lb P all E rest fr' H' K) E):=rfl
theorem Xi{ops:List Oper}{ds:List Deferred}{fr:Fr}{a:Act}(hat:AtX ds fr a){j t:Nat}(hj:(ops[j]?).bind (·.dst)=some t){b:Bool}(hv:rd fr t= .bool b):yielded ops.toArray a.tmps j=some b:=
 HB hat.bare hj hv
theorem Rt{ops:List Oper}{ds:List Deferred}{fr:Fr}{a:Act}(hat:AtX ds fr a){j t:Nat}(hj:(ops[j]?).bind (·.dst)=some t){vs:Array Value}(hv:rd fr t= .tuple vs):yielded ops.toArray a.tmps j=none:=
 HC hat.bare hj hv
theorem Ic{P:Program}{all:List Oper}{ds:List Deferred}{E:Fr→Value→Aa→Prop}{Q:Exit→Act→World→Prop}{w0:World}(hp:∀x fr a' w',AtX ds fr a'→Env w0 w'→E fr x w'.heap→Q (.panic (pe x)) a' w'):∀(l:List Oper) (fr:Fr) (a:Act) (w:World) (K:Fr→Aa→Prop),AtX ds fr a→Env w0 w→
  (∀fr' a' w',AtX ds fr' a'→Env w0 w'→K fr' w'.heap→Q .normal a' w')→
  Lb P all E l fr w.heap K→wpList P all.toArray Q l a w
 | [],fr,a,w,K,hat,he,hq,h=>hq fr a w hat he h
 | o::l,fr,a,w,K,hat,he,hq,h=>by
   have go:∀(want:Bool),(want=true→Va P o a w (fun v H'=>CL o.dst fr v fun fr'=>Lb P all E l fr' H' K) (E fr))→
     (want=false→CL o.dst fr undef fun fr'=>Lb P all E l fr' w.heap K)→
     Region.wanted o (yielded all.toArray a.tmps)=want→wpList P all.toArray Q (o::l) a w:=by
    intro want h1 h2 hw;unfold wpList;rw [hw];cases want with
    | true=>
      refine .inl (Oper.wp_mono ?_ (h1 rfl _ fun x w' henv hx=>hp x fr a w' hat (he.trans henv) hx));rintro a' w' ⟨v,rfl,henv,hk⟩;rw [Cm]at hk;exact Ic hp l _ _ _ K (hat.put o.dst v) (he.trans henv) hq hk
    | false=>
      have h3:=h2 rfl;rw [Cm]at h3;exact Ic hp l _ _ _ K (hat.put o.dst undef) he hq h3
   rw [Sk]at h;split at h
   ·rename_i hg;exact go true (fun _=>FQ hat h) (fun h=>by cases h) (by simp [Region.wanted,hg])
   ·rename_i j want hg;split at h
    ·exact h.elim
    ·rename_i t ht;unfold Pi at h;simp only [apK]at h;rw [DP]at h;split at h
     ·rename_i b hb;have hy:=Xi hat ht hb;have hs:fr.set t (.bool b)=fr:=Ek hb (by simp [undef]);cases b<;>cases want<;>simp only [AN,Fv,hs]at h
      ·exact go true (fun _=>FQ hat h) (fun h=>by cases h) (by simp [Region.wanted,hg,hy])
      ·exact go false (fun h=>by cases h) (fun _=>h) (by simp [Region.wanted,hg,hy])
      ·exact go false (fun h=>by cases h) (fun _=>h) (by simp [Region.wanted,hg,hy])
      ·exact go true (fun _=>FQ hat h) (fun h=>by cases h) (by simp [Region.wanted,hg,hy])
     ·rename_i vs hb;exact go false (fun h=>by cases h) (fun _=>h) (by simp [Region.wanted,hg,Rt hat ht hb])
     ·exact h.elim
def SC(E:Fr→Value→Aa→Prop)(l:List Oper):Prop:=∀o∈l,∀d,o.dst=some d→∀fr v x H,E (fr.set d v) x H→E fr x H
theorem Dn(E:Value→Aa→Prop)(l:List Oper):SC (fun _=>E) l:=fun _ _ _ _ _ _ _ _ h=>h
structure Cw(P:Program)(ds:List Deferred)(l:List Oper)(fr:Fr)(H:Aa)(K:Fr→Aa→Prop)(E:Fr→Value→Aa→Prop):Prop where
 in_::
 out_:∀(id:Nat) (Q:Exit→Act→World→Prop) (a:Act) (w:World),AtX ds fr a→w.heap=H→(∀x fr a' w',AtX ds fr a'→Env w w'→E fr x w'.heap→Q (.panic (pe x)) a' w')→
  (SC E l→∀c,∀o∈l,∀v a w,Q (.panic c) (a.put o.dst v) w→Q (.panic c) a w)→
  (∀fr' a' w',AtX ds fr' a'→Env w w'→K fr' w'.heap→Q .normal a' w')→(Code.region id l.toArray true).wp P Q a w
theorem Cw.of{P:Program}{l:List Oper}{fr:Fr}{H:Aa}{K:Fr→Aa→Prop}{E:Fr→Value→Aa→Prop}(h:Ar P l fr H K):Cw P [] l fr H K E:=by
 refine⟨fun id Q a w hat hw _ _ hq=>?_⟩;refine Code.wp_mono (Q:=fun e a w=>Q e a w∧∀c,e≠ .panic c) (fun e a w h=>h.1) ?_;exact h.out id _ a w hat.at_ hw (fun c a w h=>h.2 c rfl) fun fr' a' w' h1 h2 h3=>⟨hq fr' a' w' ⟨h1.tmps,h1.defers⟩ h2 h3,fun c=>by simp⟩
def Ow(P:Program)(S:Nat→Prop)(Z:List Nat)(H0:Aa)(all:List Oper)(E:Fr→Value→Aa→Prop)(i:Nat)(fr:Fr)(H:Aa)(next:Fr→Aa→Prop):Prop:=
 match all[i]? with
 | none=>False
 | some o=>match o.guard with
   | some _=>False
   | none=>match Z.contains i with
     | true=>QL P o fr H (fun v H'=>CL o.dst fr v fun fr'=>next fr' H') E
     | false=>QL P o fr H (fun v H'=>Agr S H0 H'∧CL o.dst fr v fun fr'=>next fr' H') E
def Tu(P:Program)(S:Nat→Prop)(Z:List Nat)(H0:Aa)(all:List Oper)(E:Fr→Value→Aa→Prop)(s:Sch):Fr→Aa→(Fr→Aa→Prop)→Prop:=
 Sch.rec (motive:=fun _=>Fr→Aa→(Fr→Aa→Prop)→Prop) (fun fr H K=>K fr H)
  (fun i _ ih fr H K=>match all[i]? with
   | none=>False
   | some o=>match o.guard with
     | some _=>False
     | none=>match La o&&Gd P o with
       | true=>Nw P S o fr H fun v=>CL o.dst fr v fun fr'=>ih fr' H K
       | false=>False)
  (fun i _ ih fr H K=>Ow P S Z H0 all E i fr H fun fr' H'=>ih fr' H' K)
  (fun i _ j _ ih ih' fr H K=>(Ow P S Z H0 all E i fr H fun fr' H'=>ih fr' H' K)∧Ow P S Z H0 all E j fr H fun fr' H'=>ih' fr' H' K) s
theorem XW(P:Program)(S:Nat→Prop)(Z:List Nat)(H0:Aa)(all:List Oper)(E:Fr→Value→Aa→Prop)(i:Nat)(s:Sch)(fr:Fr)(H:Aa)(K:Fr→Aa→Prop):Tu P S Z H0 all E (.q i s) fr H K=
  (match all[i]? with
   | none=>False
   | some o=>match o.guard with
     | some _=>False
     | none=>match La o&&Gd P o with
       | true=>Nw P S o fr H fun v=>CL o.dst fr v fun fr'=>Tu P S Z H0 all E s fr' H K
       | false=>False):=rfl
theorem Ip{P:Program}{S:Nat→Prop}{Z:List Nat}{w0:World}{all:List Oper}{ds:List Deferred}{E:Fr→Value→Aa→Prop}{Q:Exit→Act→World→Prop}(hp:∀x fr a' w',AtX ds fr a'→Env w0 w'→E fr x w'.heap→Q (.panic (pe x)) a' w'){i:Nat}{fr:Fr}{a:Act}{w:World}{next:Fr→Aa→Prop}{N:Act→World→Prop}
  (hat:AtX ds fr a) (hc:Env w0 w) (h:Ow P S Z w0.heap all E i fr w.heap next)
  (hn:∀fr' a' w',AtX ds fr' a'→Env w0 w'→(Z.contains i=false→Cls w0 S w')→next fr' w'.heap→N a' w'):wpOp P all.toArray Q i N a w:=by
 unfold Ow at h;split at h
 ·exact h.elim
 ·rename_i o ho;have ho':all.toArray[i]? =some o:=by simpa using ho
  split at h
  ·exact h.elim
  ·rename_i hg;have hwant:Region.wanted o (yielded all.toArray a.tmps)=true:=by simp [Region.wanted,hg]
   unfold wpOp;rw [ho'];dsimp only;rw [if_pos hwant];split at h
   ·rename_i hz;refine .inl (Oper.wp_mono ?_ (FQ hat h _ fun x w' henv hx=>hp x fr a w' hat (hc.trans henv) hx));rintro a' w' ⟨v,rfl,henv,hk⟩;rw [Cm]at hk;exact hn _ _ _ (hat.put o.dst v) (hc.trans henv) (fun hne=>by rw [hz]at hne;cases hne) hk
   ·refine .inl (Oper.wp_mono ?_ (FQ hat h _ fun x w' henv hx=>hp x fr a w' hat (hc.trans henv) hx));rintro a' w' ⟨v,rfl,henv,hagr,hk⟩;rw [Cm]at hk;exact hn _ _ _ (hat.put o.dst v) (hc.trans henv) (fun _=>⟨hc.trans henv,hagr⟩) hk
theorem Sr(a:Act)(dst:Option Tmp)(v:Value):(a.put dst v).defers=a.defers:=by cases dst<;>rfl
theorem Ff{P:Program}{S:Nat→Prop}{Z:List Nat}{w0:World}{all:List Oper}{ds:List Deferred}{E:Fr→Value→Aa→Prop}{Q:Exit→Act→World→Prop}(hs:Region.noSelect all.toArray=true)
  (hp:∀x fr a' w',AtX ds fr a'→Env w0 w'→E fr x w'.heap→Q (.panic (pe x)) a' w') (hp2:∀c,∀o∈all,∀v a w,Q (.panic c) (a.put o.dst v) w→Q (.panic c) a w):∀(l:Sch) (listed:Array Bool) (fr:Fr) (a:Act) (w:World) (K:Fr→Aa→Prop),AtX ds fr a→Env w0 w→(Ru Z l=false→Cls w0 S w)→IV all.toArray listed→
  (∀fr' a' w',AtX ds fr' a'→Env w0 w'→K fr' w'.heap→Q .normal a' w')→DO all.toArray Z l listed=true→l.even=true→
  Tu P S Z w0.heap all E l fr w.heap K→J9 P all.toArray Q (Cls w0 S) Z l.len listed a w
 | .e,listed,fr,a,w,K,hat,he,_,_,hq,hB,_,h=>⟨by simpa [DO]using hB,hq fr a w hat he h⟩
 | .q i s,listed,fr,a,w,K,hat,he,hc,hsh,hq,hB,hev,h=>by
   have hc:=hc rfl;simp only [DO,Ac3,AcO,AcK]at hB;obtain⟨⟨⟨⟨b1,b2⟩,b3⟩,b4⟩,hB2⟩:=hB;rw [XW]at h;split at h
   ·exact h.elim
   ·rename_i o ho;have ho':all.toArray[i]? =some o:=by simpa using ho
    have hri:i∈Region.ready .any all.toArray listed:=by simpa using b1
    split at h
    ·exact h.elim
    ·rename_i hg;have hwant:Region.wanted o (yielded all.toArray a.tmps)=true:=by simp [Region.wanted,hg]
     split at h
     ·obtain⟨v,hv,hk⟩:=EJ h;rw [Cm]at hk;refine FE (v:=v) (f:=all.toArray.size) ho' (Region.noSelect_spec hs) (fun c a' w' hh=>hp2 c o (List.mem_of_getElem? ho) v a' w' hh) b3 (fun j hj=>b4 j (by simpa using hj)) s.len listed a w hsh (Region.free_spec ho' b2) hri
       (.inl ⟨hwant,fun w' hw'=>?_⟩) hc ?_
      ·rw [hat.evalF];exact hv w' fun k hk=>(hw'.2 k hk).trans (hc.2 k hk).symm
      ·exact Ff hs hp hp2 s _ _ _ w K (hat.put o.dst v) he (fun _=>hc) (hsh.put hri) hq hB2 hev hk
     ·exact h.elim
 | .f i s,listed,fr,a,w,K,hat,he,hc,hsh,hq,hB,hev,h=>by
   simp only [DO,Ac3,Ad3,AcO,beq_iff_eq]at hB;obtain⟨⟨b1,b2⟩,hB2⟩:=hB;refine⟨(fun h0=>by rw [b1]at h0;cases h0),fun j hj=>?_⟩;have hj0:=hj;rw [b1]at hj;obtain rfl:j=i:=by simpa using hj
   refine Ip hp hat he h fun fr' a' w' h1 h2 h3 h4=>⟨h3,Ff hs hp hp2 s _ _ _ w' K h1 h2 (fun hz=>?_) (hsh.put hj0) hq hB2 hev h4⟩;rcases b2 with b2 | b2
   ·exact h3 b2
   ·rw [b2]at hz;cases hz
 | .b i s j s',listed,fr,a,w,K,hat,he,hc,hsh,hq,hB,hev,h=>by
   simp only [DO,Ac3,Ad3,AcO,beq_iff_eq]at hB;obtain⟨⟨⟨b1,b2⟩,hB2⟩,hB3⟩:=hB;simp only [Sch.even,Ac3,beq_iff_eq]at hev;obtain⟨⟨e1,e2⟩,e3⟩:=hev;refine⟨(fun h0=>by rw [b1]at h0;cases h0),fun k hk=>?_⟩;have hk0:=hk;rw [b1]at hk;rcases List.mem_cons.1 hk with rfl | hk
   ·refine Ip hp hat he h.1 fun fr' a' w' h1 h2 h3 h4=>⟨h3,Ff hs hp hp2 s _ _ _ w' K h1 h2 (fun hz=>?_) (hsh.put hk0) hq hB2 e1 h4⟩;rcases b2 with b2 | b2
    ·exact h3 b2.1
    ·rw [b2.1]at hz;cases hz
   ·obtain rfl:k=j:=by simpa using hk
    rw [e3];refine Ip hp hat he h.2 fun fr' a' w' h1 h2 h3 h4=>⟨h3,Ff hs hp hp2 s' _ _ _ w' K h1 h2 (fun hz=>?_) (hsh.put hk0) hq hB3 e2 h4⟩;rcases b2 with b2 | b2
    ·exact h3 b2.2
    ·rw [b2.2]at hz;cases hz
theorem Cw.held{P:Program}{ds:List Deferred}{l:List Oper}{fr:Fr}{H:Aa}{K:Fr→Aa→Prop}{E:Fr→Value→Aa→Prop}(S:Nat→Prop)(Z:List Nat)(sched:Sch)(hbl:SC E l)(hm:P.follows .mixedOrders=true)
  (hB:(Region.noSelect l.toArray&&(sched.len==l.length)&&sched.even&&DO l.toArray Z sched (AbV l.length false))=true)
  (h:Tu P S Z H l E sched fr H K):Cw P ds l fr H K E:=by
 refine⟨?_⟩;intro id Q a w hat hw hp hp2 hq;subst hw;simp only [Ac3,beq_iff_eq]at hB;refine wp_region_any hm (Hz (S:=Cls w S) (Z:=Z) _ _ _ _ ?_);have hsh:IV l.toArray (AbV l.length false):=fun j o _ hj=>by
  rw [Array.getD_eq_getD_getElem?,Array.getElem?_replicate]at hj;split at hj<;>simp at hj
 have:=Ff (P:=P) (S:=S) (Z:=Z) (w0:=w) (Q:=Q) hB.1.1.1 hp (hp2 hbl) sched (AbV l.length false) fr a {w with drawn:=w.drawn+1} K hat ⟨rfl,rfl,rfl⟩ (fun _=>⟨⟨rfl,rfl,rfl⟩,Agr.refl _ _⟩) hsh hq hB.2 hB.1.2 h;rw [hB.1.1.2]at this;simpa using this
def DH(ds:List Deferred)(w0:World)(E:Fr→Value→Aa→Prop)(Q:Exit→Fr→Aa→Prop):Exit→Act→World→Prop
 | .panic c,a,w=>∃fr,AtX ds fr a∧Env w0 w∧∃x,c=pe x∧E fr x w.heap
 | .outgrown,_,_=>False
 | e,a,w=>∃fr,AtX ds fr a∧Env w0 w∧Q e fr w.heap
structure EG(P:Program)(ds:List Deferred)(E:Fr→Value→Aa→Prop)(c:Code)(fr:Fr)(H:Aa)(X:List (Nat×(Fr→Aa→Prop)))(kr:Fr→Aa→Prop):Prop where
 in_::
 out_:∀(a:Act) (w:World),AtX ds fr a→w.heap=H→(Code.loop c).wp P (DH ds w E (Qx (fun _ _=>False) X kr)) a w
structure Bb(P:Program)(ds:List Deferred)(E:Fr→Value→Aa→Prop)(x y:Code)(fr:Fr)(H:Aa)(kn:Fr→Aa→Prop)(X:List (Nat×(Fr→Aa→Prop)))(kr:Fr→Aa→Prop):Prop where
 in_::
 out_:∀(a:Act) (w:World),AtX ds fr a→w.heap=H→(Code.seq x y).wp P (DH ds w E (Qx kn X kr)) a w
def vcP(P:Program)(ds:List Deferred)(E:Fr→Value→Aa→Prop)(c:Code):Fr→Aa→(Fr→Aa→Prop)→List (Nat×(Fr→Aa→Prop))→(Fr→Aa→Prop)→Prop:=
 Code.rec (motive:=fun _=>Fr→Aa→(Fr→Aa→Prop)→List (Nat×(Fr→Aa→Prop))→(Fr→Aa→Prop)→Prop)
  (fun fr H kn _ _=>kn fr H)
  (fun _ ops draw fr H kn _ _=>match draw with
   | false=>Lb P ops.toList E ops.toList fr H kn
   | true=>Cw P ds ops.toList fr H kn E)
  (fun a b iha ihb fr H kn X kr=>match K4 a with
   | true=>Bb P ds E a b fr H kn X kr
   | false=>iha fr H (fun fr' H'=>ihb fr' H' kn X kr) X kr)
  (fun c _ _ ihx ihy fr H kn X kr=>match c with
   | .tmp t=>rdK fr t fun v=>match v with
     | .bool b=>AN b (wrK fr t (.bool true) fun fr1=>ihx fr1 H kn X kr) (wrK fr t (.bool false) fun fr1=>ihy fr1 H kn X kr)
     | _=>False
   | .const (.bool b)=>AN b (ihx fr H kn X kr) (ihy fr H kn X kr)
   | _=>False)
  (fun id _ ih fr H kn X kr=>ih fr H kn ((id,kn)::X) kr)
  (fun c _ fr H _ X kr=>EG P ds E c fr H X kr)
  (fun _ _ _ _ _ _ _ _ _ _ _=>False)
  (fun id fr H _ X _=>NI X id fr H)
  (fun _ _ _ _ _ _ _=>False)
  (fun _ _ _ _ _ _=>False)
  (fun _ _ _ _ _ _=>False)
  (fun fr H _ _ kr=>kr fr H)
  (fun _ _ _ _ _ _=>False) c
section
variable(P:Program)(ds:List Deferred)(E:Fr→Value→Aa→Prop)(a b:Code)(fr:Fr)(H:Aa)(kn:Fr→Aa→Prop)(X:List (Nat×(Fr→Aa→Prop)))(kr:Fr→Aa→Prop)
theorem SA(id:Nat)(ops:Array Oper)(draw:Bool):vcP P ds E (.region id ops draw) fr H kn X kr=(match draw with
   | false=>Lb P ops.toList E ops.toList fr H kn
   | true=>Cw P ds ops.toList fr H kn E):=rfl
theorem YJ:vcP P ds E (.seq a b) fr H kn X kr=(match K4 a with
   | true=>Bb P ds E a b fr H kn X kr
   | false=>vcP P ds E a fr H (fun fr' H'=>vcP P ds E b fr' H' kn X kr) X kr):=rfl
theorem Xb(c:Operand):vcP P ds E (.cond c a b) fr H kn X kr=(match c with
   | .tmp t=>rdK fr t fun v=>match v with
     | .bool x=>AN x (wrK fr t (.bool true) fun fr1=>vcP P ds E a fr1 H kn X kr) (wrK fr t (.bool false) fun fr1=>vcP P ds E b fr1 H kn X kr)
     | _=>False
   | .const (.bool x)=>AN x (vcP P ds E a fr H kn X kr) (vcP P ds E b fr H kn X kr)
   | _=>False):=rfl
theorem UU(id:Nat):vcP P ds E (.block id a) fr H kn X kr=vcP P ds E a fr H kn ((id,kn)::X) kr:=rfl
end
theorem EG.out{P:Program}{ds:List Deferred}{E:Fr→Value→Aa→Prop}{c:Code}{fr:Fr}{H:Aa}{X:List (Nat×(Fr→Aa→Prop))}{kr:Fr→Aa→Prop}(h:EG P ds E c fr H X kr):
  ∀(a:Act) (w:World),AtX ds fr a→w.heap=H→(Code.loop c).wp P (DH ds w E (Qx (fun _ _=>False) X kr)) a w:=by exact h.out_
theorem Bb.out{P:Program}{ds:List Deferred}{E:Fr→Value→Aa→Prop}{x y:Code}{fr:Fr}{H:Aa}{kn:Fr→Aa→Prop}{X:List (Nat×(Fr→Aa→Prop))}{kr:Fr→Aa→Prop}(h:Bb P ds E x y fr H kn X kr):
  ∀(a:Act) (w:World),AtX ds fr a→w.heap=H→(Code.seq x y).wp P (DH ds w E (Qx kn X kr)) a w:=by exact h.out_
theorem DH.env{ds:List Deferred}{w0 w1:World}{E:Fr→Value→Aa→Prop}{Q:Exit→Fr→Aa→Prop}(henv:Env w0 w1):∀{e:Exit} {a:Act} {w:World},DH ds w1 E Q e a w→DH ds w0 E Q e a w
 | .normal,_,_,⟨fr,h1,h2,h3⟩ | .exit _,_,_,⟨fr,h1,h2,h3⟩ | .goto _,_,_,⟨fr,h1,h2,h3⟩ | .ret,_,_,⟨fr,h1,h2,h3⟩=>⟨fr,h1,henv.trans h2,h3⟩
 | .panic c,_,_,⟨fr,h1,h2,h3⟩=>⟨fr,h1,henv.trans h2,h3⟩
theorem DH.mono{ds:List Deferred}{w0:World}{E:Fr→Value→Aa→Prop}{Q Q':Exit→Fr→Aa→Prop}(hq:∀e fr H,Q e fr H→Q' e fr H):∀{e:Exit} {a:Act} {w:World},DH ds w0 E Q e a w→DH ds w0 E Q' e a w
 | .normal,_,_,⟨fr,h1,h2,h3⟩ | .exit _,_,_,⟨fr,h1,h2,h3⟩ | .goto _,_,_,⟨fr,h1,h2,h3⟩ | .ret,_,_,⟨fr,h1,h2,h3⟩=>⟨fr,h1,h2,hq _ _ _ h3⟩
 | .panic c,_,_,h=>h
theorem KJ{P:Program}{ds:List Deferred}{E:Fr→Value→Aa→Prop}{x y:Code}{kn k1:Fr→Aa→Prop}{X:List (Nat×(Fr→Aa→Prop))}{kr:Fr→Aa→Prop}{a:Act}{w:World}
  (hx:x.wp P (DH ds w E (Qx k1 X kr)) a w)
  (hy:∀fr a' w',AtX ds fr a'→Env w w'→k1 fr w'.heap→y.wp P (DH ds w' E (Qx kn X kr)) a' w'):(Code.seq x y).wp P (DH ds w E (Qx kn X kr)) a w:=by
 refine wp_seq (Code.wp_mono ?_ hx);intro e a' w' h;cases e with
 | normal=>
   obtain⟨fr,h1,h2,h3⟩:=h;exact Code.wp_mono (fun e a w h=>DH.env h2 h) (hy fr a' w' h1 h2 h3)
 | exit id=>exact h
 | goto l=>exact h
 | ret=>exact h
 | panic c=>exact h
 | outgrown=>exact h
theorem Co{P:Program}{ds:List Deferred}{E:Fr→Value→Aa→Prop}:∀(c:Code) (fr:Fr) (kn:Fr→Aa→Prop) (X:List (Nat×(Fr→Aa→Prop))) (kr:Fr→Aa→Prop) (a:Act) (w:World),AtX ds fr a→
  vcP P ds E c fr w.heap kn X kr→c.wp P (DH ds w E (Qx kn X kr)) a w
 | .skip,fr,kn,X,kr,a,w,hat,h=>wp_skip ⟨fr,hat,Env.refl w,h⟩
 | .region id ops draw,fr,kn,X,kr,a,w,hat,h=>by
   rw [SA]at h;cases draw with
   | false=>
     have:=wp_region_lit (P:=P) (id:=id) (l:=ops.toList) (Ic (P:=P) (all:=ops.toList) (ds:=ds) (E:=E) (Q:=DH ds w E (Qx kn X kr)) (w0:=w) (fun x fr a' w' h1 h2 h3=>⟨fr,h1,h2,x,rfl,h3⟩) ops.toList fr a w kn hat (Env.refl w) (fun fr' a' w' h1 h2 h3=>⟨fr',h1,h2,h3⟩) h);simpa using this
   | true=>
     have:=h.out_ id (DH ds w E (Qx kn X kr)) a w hat rfl (fun x fr a' w' h1 h2 h3=>⟨fr,h1,h2,x,rfl,h3⟩) (fun hbl c o ho v a w' h=>by
      obtain⟨fr2,h1,h2,x,h3,h4⟩:=h;obtain⟨h5,h6⟩:=h1;rw [Sr]at h6;refine⟨a.tmps.toList,⟨rfl,h6⟩,h2,x,h3,?_⟩;cases hd:o.dst with
      | none=>rw [hd]at h5;rw [←h5]at h4;exact h4
      | some d=>
        rw [hd]at h5;refine hbl o ho d hd _ v x _ ?_;rw [←h5]at h4;simpa [Act.put]using h4) (fun fr' a' w' h1 h2 h3=>⟨fr',h1,h2,h3⟩)
     simpa using this
 | .seq x y,fr,kn,X,kr,a,w,hat,h=>by
   rw [YJ]at h;split at h
   ·exact h.out a w hat rfl
   ·exact KJ (Co x fr _ X kr a w hat h) fun fr' a' w' h1 _ h3=>Co y fr' kn X kr a' w' h1 h3
 | .cond c x y,fr,kn,X,kr,a,w,hat,h=>by
   rw [Xb]at h;split at h
   ·rename_i t;rw [DP]at h;split at h
    ·rename_i b hb;have hs:fr.set t (.bool b)=fr:=Ek hb (by simp [undef]);have he:a.eval (.tmp t)= .bool b:=by rw [hat.evalF];exact hb
     cases b<;>simp only [AN,Fv,hs]at h
     ·exact wp_cond_false he (Co y fr kn X kr a w hat h)
     ·exact wp_cond_true he (Co x fr kn X kr a w hat h)
    ·exact h.elim
   ·rename_i b;cases b<;>simp only [AN]at h
    ·exact wp_cond_false rfl (Co y fr kn X kr a w hat h)
    ·exact wp_cond_true rfl (Co x fr kn X kr a w hat h)
   ·exact h.elim
 | .block id c,fr,kn,X,kr,a,w,hat,h=>by
   rw [UU]at h;refine wp_block (Code.wp_mono ?_ (Co c fr kn _ kr a w hat h));intro e a' w' h;cases e with
   | exit id'=>
     obtain⟨fr',h1,h2,h3⟩:=h;simp only [Qx,NI]at h3;simp only [Exit.inBlock];split at h3
     ·rename_i hid;have:=Nat.eq_of_beq_eq_true hid;rw [if_pos this.symm];exact⟨fr',h1,h2,h3⟩
     ·rename_i hid;have:id≠id':=Nat.ne_of_beq_eq_false hid;rw [if_neg (Ne.symm this)];exact⟨fr',h1,h2,h3⟩
   | normal=>exact h
   | goto l=>exact h
   | ret=>exact h
   | panic c=>exact h
   | outgrown=>exact h
 | .loop c,fr,kn,X,kr,a,w,hat,h=>Code.wp_mono (fun e a w=>DH.mono fun e fr H hq=>by
   cases e<;>first | exact hq | exact hq.elim) (h.out a w hat rfl)
 | .exit id,fr,kn,X,kr,a,w,hat,h=>wp_exit ⟨fr,hat,Env.refl w,h⟩
 | .ret,fr,kn,X,kr,a,w,hat,h=>wp_ret ⟨fr,hat,Env.refl w,h⟩
 | .rangeFunc ..,_,_,_,_,_,_,_,h=>h.elim
 | .scope _,_,_,_,_,_,_,_,h=>h.elim
 | .label _,_,_,_,_,_,_,_,h=>h.elim
 | .goto _,_,_,_,_,_,_,_,h=>h.elim
 | .refuse _,_,_,_,_,_,_,_,h=>h.elim
theorem EG.mk{P:Program}{ds:List Deferred}{E:Fr→Value→Aa→Prop}{c:Code}{fr:Fr}{H:Aa}{X:List (Nat×(Fr→Aa→Prop))}{kr:Fr→Aa→Prop}{α:Type}(ts:List Nat)(enc:α→List Value)(I:α→Aa→Prop)(m:α→Aa→Nat)
  (h0:P8 fr ts fun vs=>∃x,vs=enc x∧I x H)
  (hr:∀(x:α) (H1:Aa) (junk:Nat→Value),I x H1→Hh junk fr (HA c []) fun fr0=>SB fr0 ts (enc x) fun fr1=>
   vcP P ds E c fr1 H1 (fun fr' H'=>IT (HA c []) fr fr' (P8 fr' ts fun vs=>∃y,vs=enc y∧I y H'∧m y H'<m x H1)) X kr):EG P ds E c fr H X kr:=by
 generalize HA c []=ws at hr;refine⟨?_⟩;intro a w hat hw;subst hw;have h0':=h0;rw [Gn]at h0';obtain⟨x0,hx0,hi0⟩:=h0'
 let J (n:Nat) (a':Act) (w':World):Prop:=∃fr' x,AtX ds fr' a'∧Env w w'∧FO (fun _=>undef) fr' ws=FO (fun _=>undef) fr ws∧ts.map (rd fr')=enc x∧I x w'.heap∧m x w'.heap=n
 refine Lq J ?_ _ a w ⟨fr,x0,hat,Env.refl w,rfl,hx0,hi0,rfl⟩;rintro n a1 w1 ⟨fr1,x1,hat1,henv1,hk1,hx1,hi1,rfl⟩;have h:=hr x1 w1.heap (rd fr1) hi1;rw [CT,IJ,D6 hk1,←hx1,GW ts fr1]at h;refine Code.wp_mono ?_ (Co c fr1 _ X kr a1 w1 hat1 h);intro e a2 w2 h2;cases e with
 | normal=>
   obtain⟨fr2,hat2,henv2,h2⟩:=h2;simp only [Qx,IT,CT,Gn]at h2;obtain⟨hk2,y,hy,hiy,hm⟩:=h2;exact⟨m y w2.heap,hm,fr2,y,hat2,henv1.trans henv2,hk2,hy,hiy,rfl⟩
 | exit id=>exact DH.env henv1 h2
 | goto l=>exact DH.env henv1 h2
 | ret=>exact DH.env henv1 h2
 | panic c=>exact DH.env henv1 h2
 | outgrown=>exact h2
theorem Bb.run{P:Program}{ds:List Deferred}{E:Fr→Value→Aa→Prop}{x y:Code}{fr:Fr}{H:Aa}{kn:Fr→Aa→Prop}{X:List (Nat×(Fr→Aa→Prop))}{kr:Fr→Aa→Prop}
  (h:vcP P ds E x fr H (fun fr' H'=>vcP P ds E y fr' H' kn X kr) X kr):Bb P ds E x y fr H kn X kr:=by
 refine⟨?_⟩;intro a w hat hw;subst hw;exact KJ (Co x fr _ X kr a w hat h) fun fr' a' w' h1 _ h3=>Co y fr' kn X kr a' w' h1 h3
theorem Bb.cut{P:Program}{ds:List Deferred}{E:Fr→Value→Aa→Prop}{x y:Code}{fr:Fr}{H:Aa}{kn:Fr→Aa→Prop}{X:List (Nat×(Fr→Aa→Prop))}{kr:Fr→Aa→Prop}{α:Type}(ts:List Nat)(enc:α→List Value)(I:α→Aa→Prop)
  (h:vcP P ds E x fr H (fun fr' H'=>IT (HA x []) fr fr' (P8 fr' ts fun vs=>∃y,vs=enc y∧I y H')) X kr)
  (k:∀(z:α) (H1:Aa) (junk:Nat→Value),I z H1→Hh junk fr (HA x []) fun fr0=>SB fr0 ts (enc z) fun fr1=>vcP P ds E y fr1 H1 kn X kr):Bb P ds E x y fr H kn X kr:=by
 generalize HA x []=ws at h k;refine⟨?_⟩;intro a w hat hw;subst hw;refine KJ (Co x fr _ X kr a w hat h) fun fr1 a1 w1 h1 _ h3=>?_;simp only [IT,CT,Gn]at h3;obtain⟨hk,z,hz,hi⟩:=h3;have h:=k z w1.heap (rd fr1) hi;rw [CT,IJ,D6 hk,←hz,GW ts fr1]at h;exact Co y fr1 kn X kr a1 w1 h1 h
theorem Sv{P:Program}{fn:Func}{ds:List Deferred}{fr:Fr}{a:Act}{w:World}{R:Value→Aa→Prop}(hat:AtX ds fr a)(h:Nz P fn.results.toList fr w.heap R):
  ∃v,(results fn a.tmps).run P w= .ok v w∧R v w.heap:=MV (a:={tmps:=a.tmps,defers:=[]}) hat.bare h
theorem BW.of_vc{P:Program}{f:FuncId}{fn:Func}{c:Code}{args:Array Value}{H:Aa}{R E:Value→Aa→Prop}(hf:P.funcs[f]? =some fn)(hb:fn.body=some c)
  (hcall:∀w:World,(callFunc f args).run P w= .ok (.enter f args) w)
  (h:MG (args.toList++AaU (fn.ntmps - args.size) undef) fun fr=>vcP P [] (fun _=>E) c fr H (fun fr' H'=>Nz P fn.results.toList fr' H' R) [] (fun fr' H'=>Nz P fn.results.toList fr' H' R)):
  BW P f args H R E:=by
 intro w hw;subst hw;refine⟨hcall w,?_⟩;refine calls_of_wp hf hb ?_;rw [GR]at h;have hat:AtX [] (args.toList++AaU (fn.ntmps - args.size) undef) {tmps:=args++AbV (fn.ntmps - args.size) undef,defers:=[]}:=⟨by simp,rfl⟩;refine Code.wp_mono ?_ (Co c _ _ _ _ _ w hat h);intro e a' w' h2;have fin:∀fr,AtX [] fr a'→Env w w'→Nz P fn.results.toList fr w'.heap R→a'.defers=[]∧∃v,(results fn a'.tmps).run P w'= .ok v w'∧Env w w'∧R v w'.heap:=by
  intro fr h1 h2 h3;obtain⟨v,hv,hR⟩:=Sv h1 h3;exact⟨h1.defers,v,hv,h2,hR⟩
 cases e with
 | normal=>obtain⟨fr,h1,h2,h3⟩:=h2;exact fin fr h1 h2 h3
 | ret=>obtain⟨fr,h1,h2,h3⟩:=h2;exact fin fr h1 h2 h3
 | exit id=>obtain⟨fr,h1,h2,h3⟩:=h2;exact h3.elim
 | goto l=>obtain⟨fr,h1,h2,h3⟩:=h2;exact h3.elim
 | panic c=>obtain⟨fr,h1,h3,x,h4,h5⟩:=h2;exact⟨h1.defers,h3,x,h4,h5⟩
 | outgrown=>exact h2.elim
def FT(P:Program)(rs:List ResultVar)(fr:Fr)(H:Aa):(List Value→Prop)→Prop:=
 List.rec (motive:=fun _=>(List Value→Prop)→Prop) (fun R=>R []) (fun r _ ih R=>match r with
  | .tmp t=>rdK fr t fun v=>ih fun vs=>R (v::vs)
  | .cell a t=>rdK fr a fun p=>ldK P t p H fun v=>ih fun vs=>R (v::vs)) rs
def KG(vs:List Value):Value:=match vs with
 | [v]=>v
 | vs=>.tuple vs.toArray
def Hr(tmps:Array Value)(r:ResultVar):Sem Value:=match r with
 | .tmp t=>pure (tmps.getD t undef)
 | .cell a t=>do loadVar t (←asAddr (tmps.getD a undef))
theorem Jw{P:Program}{fr:Fr}{a:Act}{w:World}(hat:At fr a):∀(rs:List ResultVar) (R:List Value→Prop),FT P rs fr w.heap R→
  ∃vs:List Value,(rs.mapM (Hr a.tmps)).run P w= .ok vs w∧R vs
 | [],R,h=>⟨[],by simp,h⟩
 | .tmp t::rs,R,h=>by
   have h':rdK fr t (fun v=>FT P rs fr w.heap fun vs=>R (v::vs)):=h;rw [DP]at h';obtain⟨vs,h1,h2⟩:=Jw hat rs _ h';have hrd:a.tmps.getD t undef=rd fr t:=hat.eval (.tmp t);have h0:(Hr a.tmps (.tmp t)).run P w= .ok (rd fr t) w:=by simp [Hr,hrd]
   refine⟨rd fr t::vs,?_,h2⟩;rw [Ad6,Sem.run_bind,h0];simp only [Result.andThen_ok,Sem.run_bind,h1,Sem.run_pure]
 | .cell x t::rs,R,h=>by
   have h':rdK fr x (fun p=>ldK P t p w.heap fun v=>FT P rs fr w.heap fun vs=>R (v::vs)):=h;rw [DP]at h';obtain⟨p,v,hp,hv,h2⟩:=FG h';obtain⟨vs,h3,h4⟩:=Jw hat rs _ h2;have hrd:a.tmps.getD x undef=rd fr x:=hat.eval (.tmp x);have h0:(Hr a.tmps (.cell x t)).run P w= .ok v w:=by simp [Hr,hrd,hp,asAddr,hv]
   refine⟨v::vs,?_,h4⟩;rw [Ad6,Sem.run_bind,h0];simp only [Result.andThen_ok,Sem.run_bind,h3,Sem.run_pure]
theorem EY{P:Program}{fn:Func}{ds:List Deferred}{fr:Fr}{a:Act}{w:World}{R:Value→Prop}(hat:AtX ds fr a)(h:FT P fn.results.toList fr w.heap fun vs=>R (KG vs)):
  ∃v,(results fn a.tmps).run P w= .ok v w∧R v:=by
 obtain⟨vs,h1,h2⟩:=Jw (a:={tmps:=a.tmps,defers:=[]}) hat.bare _ _ h;refine⟨KG vs,?_,h2⟩;have e:results fn a.tmps=(do
  let vs ←fn.results.mapM (Hr a.tmps)
  pure (if h:vs.size=1 then vs[0]else .tuple vs)):=rfl
 have e2:(fn.results.mapM (Hr a.tmps)).run P w= .ok vs.toArray w:=by
  rw [Array.mapM_eq_mapM_toList];have e3:(List.toArray <$> fn.results.toList.mapM (Hr a.tmps))=(fn.results.toList.mapM (Hr a.tmps) >>= fun l=>pure l.toArray):=rfl;rw [e3,Sem.run_bind,h1];simp
 rw [e,Sem.run_bind,e2];simp only [Result.andThen_ok,Sem.run_pure]
 match vs with
 | []=>rfl
 | [v]=>rfl
 | _::_::_=>rfl
def recB(o0 o1:Oper)(t0 t1:Nat):Prop:=(∃ats,o0.op= .call {callee:=.builtin .recover,args:= #[],argTypes:=ats})∧o0.guard=none∧o0.dst=some t0∧o1.op= .assign (.tmp t0)∧o1.guard=none∧o1.dst=some t1
inductive Z2:FrameMode→FrameMode→Value→Prop
 | ret:Z2 .returning .returning .nilIface
 | pan (x:Value):Z2 (.panicking (pe x)) (.panicking [{v:=x,recovered:=true}]) x
theorem GY{P:Program}{g:FuncId}{fn:Func}{id0:Nat}{o0 o1:Oper}{t0 t1:Nat}{rest:Code}{args:Array Value}{u u':FrameMode}{rv:Value}{H:Aa}{R:Aa→Prop}(hf:P.funcs[g]? =some fn)(hb:fn.body=some (.seq (.region id0 #[o0,o1] false) rest))
  (hB:recB o0 o1 t0 t1) (hu:Z2 u u' rv) (hres:fn.results= #[])
  (h:MG (args.toList++AaU (fn.ntmps - args.size) undef) fun fr=>rdK fr t0 fun _=>rdK (fr.set t0 rv) t0 fun v=>v=rv∧wrK fr t0 rv fun fr1=>wrK fr1 t1 rv fun fr2=>vc P rest fr2 H (fun _ H'=>R H') [] (fun _ H'=>R H')):
  ∀w:World,w.heap=H→CallsD P g args u w fun e u2 w'=>e= .returned (.tuple #[])∧u2=u'∧Env w w'∧R w'.heap:=by
 intro w hw;subst hw;rw [GR]at h;simp only [DP,Fv]at h;obtain⟨hrv,h⟩:=h;obtain⟨⟨ats,b0⟩,b1,b2,b3,b4,b5⟩:=hB;refine callsD_of_wpS hf hb ?_;intro c₀ cs hc
 let a0:Act:={tmps:=args++AbV (fn.ntmps - args.size) undef,defers:=[]}
 have hat0:At (args.toList++AaU (fn.ntmps - args.size) undef) a0:=⟨by simp [a0],rfl⟩;refine wpS_seq (wpS_region ?_);have hrun0:(execOp a0.eval o0).run P w= .ok .recover w:=by
  simp only [execOp,b0,resolve];simp [invoke,builtin]
 have key:∀(c':Frame),{c₀ with mode:=u'}=c'→wpOpsS P #[o0,o1] (Exit.thenS (rest.wpS P (bodyPostS P fn c₀ cs fun e u2 w'=>e= .returned (.tuple #[])∧u2=u'∧Env w w'∧R w'.heap)) (bodyPostS P fn c₀ cs fun e u2 w'=>e= .returned (.tuple #[])∧u2=u'∧Env w w'∧R w'.heap)) [1] (a0.put o0.dst rv) (c'::cs) w:=by
  intro c' hc';have hat1:=hat0.put o0.dst rv;have hrun1:(execOp (a0.put o0.dst rv).eval o1).run P w= .ok (.value rv) w:=by
   rw [hat1.evalF,b2];simp only [execOp,b3];have:evF ((args.toList++AaU (fn.ntmps - args.size) undef).set t0 rv) (.tmp t0)=rv:=hrv;simp [this]
  have hw1:Region.wanted o1 (yielded #[o0,o1] (a0.put o0.dst rv).tmps)=true:=by simp [Region.wanted,b4]
  unfold wpOpsS;have g1:(#[o0,o1]:Array Oper)[1]? =some o1:=rfl;rw [g1];simp only [hw1,if_true,hrun1];simp only [Oper.upon,wpOpsS,Exit.thenS];refine wpS_of_wp ?_;have hat2:=hat1.put o1.dst rv;rw [b2,b5]at hat2;rw [b2,b5];refine Code.wp_mono ?_ (Ck rest _ _ _ _ _ w hat2 h);intro e a' w' h2;have fin:∀fr,At fr a'→Env w w'→R w'.heap→a'.defers=[]∧∃u2,c'::cs={c₀ with mode:=u2}::cs∧∃v,(results fn a'.tmps).run P w'= .ok v w'∧Ending.returned v= .returned (.tuple #[])∧u2=u'∧Env w w'∧R w'.heap:=by
   intro fr h1 h2 h3;refine⟨h1.defers,u',by rw [hc'],.tuple #[],?_,rfl,rfl,h2,h3⟩;simp [results,hres]
  cases e with
  | normal=>obtain⟨fr,h1,h2,h3⟩:=h2;exact fin fr h1 h2 h3
  | ret=>obtain⟨fr,h1,h2,h3⟩:=h2;exact fin fr h1 h2 h3
  | exit id=>obtain⟨fr,h1,h2,h3⟩:=h2;exact h3.elim
  | goto l=>obtain⟨fr,h1,h2,h3⟩:=h2;exact h3.elim
  | panic c=>exact h2.elim
  | outgrown=>exact h2.elim
 have hw0:Region.wanted o0 (yielded #[o0,o1] a0.tmps)=true:=by simp [Region.wanted,b1]
 show wpOpsS P #[o0,o1] _ [0,1] a0 (c₀::cs) w;unfold wpOpsS;have g0:(#[o0,o1]:Array Oper)[0]? =some o0:=rfl;rw [g0];simp only [hw0,if_true,hrun0];cases hu with
 | ret=>
   have:recoverD (c₀::cs)=none:=by simp [recoverD,hc]
   rw [this];exact key c₀ (by rw [←hc])
 | pan=>
   have:recoverD (c₀::cs)=some (rv,{c₀ with mode:=.panicking [{v:=rv,recovered:=true}]}::cs):=by simp [recoverD,hc]
   rw [this];exact key _ rfl
structure Fa(P:Program)(g:FuncId)(args:Array Value)(u u':FrameMode)(H:Aa)(K:Aa→Prop):Prop where
 in_::
 out_:∀w:World,w.heap=H→CallsD P g args u w fun e u2 w'=>e= .returned (.tuple #[])∧u2=u'∧Env w w'∧K w'.heap
theorem Fa.mk{P:Program}{g:FuncId}{args:Array Value}{u u':FrameMode}{H:Aa}{K R:Aa→Prop}(h:∀w:World,w.heap=H→CallsD P g args u w fun e u2 w'=>e= .returned (.tuple #[])∧u2=u'∧Env w w'∧R w'.heap)(k:∀H',R H'→K H'):Fa P g args u u' H K:=
 ⟨fun w hw=>(h w hw).mono fun e u2 w' ⟨h1,h2,h3,h4⟩=>⟨h1,h2,h3,k _ h4⟩⟩
def defB(o1 o2:Oper)(tc:Nat)(g:FuncId)(cap:Array Operand):Prop:=
 o1.op= .makeFunc (.func g) #[] cap∧o1.guard=none∧o1.dst=some tc∧(∃ats,o2.op= .defer {callee:=.value (.tmp tc),args:= #[],argTypes:=ats})∧o2.guard=none∧o2.dst=none
abbrev dfr(g:FuncId)(vs:List Value):Deferred:={target:=.fn (.func g) vs.toArray,args:= #[]}
theorem Al.of_defer{P:Program}{f:FuncId}{fn:Func}{r0 A B:Code}{idD:Nat}{o1 o2:Oper}{tc:Nat}{g:FuncId}{cap:Array Operand}{args:Array Value}{H:Aa}{R:Value→Aa→Prop}(hf:P.funcs[f]? =some fn)
  (hb:fn.body=some (.seq r0 (.seq A (.seq (.region idD #[o1,o2] false) B)))) (hcall:∀w:World,(callFunc f args).run P w= .ok (.enter f args) w) (hD:defB o1 o2 tc g cap) (hg:∀(vs:Array Value) (w:World),(callFunc g vs).run P w= .ok (.enter g vs) w)
  (h:MG (args.toList++AaU (fn.ntmps - args.size) undef) fun fr=>
   vc P r0 fr H (fun fr1 H1=>vc P A fr1 H1 (fun fr2 H2=>Hb fr2 cap.toList fun vs=>wrK fr2 tc (.func (.func g) #[] vs.toArray) fun fr3=>rdK fr3 tc fun fv=>fv= .func (.func g) #[] vs.toArray∧
    vcP P [dfr g vs] (fun fr4 x H4=>Fa P g vs.toArray (.panicking (pe x)) (.panicking [{v:=x,recovered:=true}]) H4 fun H5=>FT P fn.results.toList fr4 H5 fun us=>R (KG us) H5) B fr3 H2
     (fun fr4 H4=>Fa P g vs.toArray .returning .returning H4 fun H5=>FT P fn.results.toList fr4 H5 fun us=>R (KG us) H5) []
     (fun fr4 H4=>Fa P g vs.toArray .returning .returning H4 fun H5=>FT P fn.results.toList fr4 H5 fun us=>R (KG us) H5))
    [] (fun fr4 H4=>FT P fn.results.toList fr4 H4 fun us=>R (KG us) H4)) [] (fun fr4 H4=>FT P fn.results.toList fr4 H4 fun us=>R (KG us) H4)):
  Al P f args H R:=by
 intro w hw;subst hw;refine⟨hcall w,?_⟩;rw [GR]at h;obtain⟨d1,d2,d3,⟨ats,d4⟩,d5,d6⟩:=hD;refine calls_of_wp_defers hf hb ?_
 let a0:Act:={tmps:=args++AbV (fn.ntmps - args.size) undef,defers:=[]}
 have hat0:At (args.toList++AaU (fn.ntmps - args.size) undef) a0:=⟨by simp [a0],rfl⟩;have early:∀(fr:Fr) (a':Act) (w':World),At fr a'→Env w w'→(FT P fn.results.toList fr w'.heap fun us=>R (KG us) w'.heap)→Leaves P fn a'.tmps (fun e w'=>∃v,e= .returned v∧Env w w'∧R v w'.heap) a'.defers .returning w':=by
  intro fr a' w' h1 h2 h3;rw [h1.defers];obtain⟨v,e1,e2⟩:=EY (fn:=fn) (ds:=[]) (R:=fun v=>R v w'.heap) ⟨h1.tmps,h1.defers⟩ h3;exact⟨v,e1,v,rfl,h2,e2⟩
 refine wp_seq (Code.wp_mono ?_ (Ck r0 _ _ _ _ a0 w hat0 h));intro e a1 w1 h1;cases e with
 | ret=>obtain⟨fr,k1,k2,k3⟩:=h1;exact early fr a1 w1 k1 k2 k3
 | exit id=>obtain⟨fr,k1,k2,k3⟩:=h1;exact k3.elim
 | goto l=>obtain⟨fr,k1,k2,k3⟩:=h1;exact k3.elim
 | panic c=>exact h1.elim
 | outgrown=>exact h1.elim
 | normal=>
 obtain⟨fr1,k1,k2,k3⟩:=h1;refine wp_seq (Code.wp_mono ?_ (Ck A _ _ _ _ a1 w1 k1 k3));intro e a2 w2 h2;cases e with
 | ret=>obtain⟨fr,m1,m2,m3⟩:=h2;exact early fr a2 w2 m1 (k2.trans m2) m3
 | exit id=>obtain⟨fr,m1,m2,m3⟩:=h2;exact m3.elim
 | goto l=>obtain⟨fr,m1,m2,m3⟩:=h2;exact m3.elim
 | panic c=>exact h2.elim
 | outgrown=>exact h2.elim
 | normal=>
 obtain⟨fr2,m1,m2,m3⟩:=h2;have m3:Hb fr2 cap.toList _:=m3;rw [I4]at m3;simp only [Fv,DP]at m3;obtain⟨m4,m5⟩:=m3;have he2:=k2.trans m2;have hr1:(execOp a2.eval o1).run P w2= .ok (.value (.func (.func g) #[] (cap.toList.map (evF fr2)).toArray)) w2:=by
  rw [m1.evalF];simp only [execOp,d1];simp only [←Ad0,Array.toArray_toList];simp [Instr.makeFunc]
 have hat3:=m1.put o1.dst (.func (.func g) #[] (cap.toList.map (evF fr2)).toArray);rw [d3]at hat3;have hr2:(execOp (a2.put o1.dst (.func (.func g) #[] (cap.toList.map (evF fr2)).toArray)).eval o2).run P w2= .ok (.defer (dfr g (cap.toList.map (evF fr2)))) w2:=by
  rw [d3,hat3.evalF];simp only [execOp,d4,resolve];have:evF (fr2.set tc (.func (.func g) #[] (cap.toList.map (evF fr2)).toArray)) (.tmp tc)= .func (.func g) #[] (cap.toList.map (evF fr2)).toArray:=m4;simp [this,Deferred.ofValue]
 refine wp_seq (wp_region_lit (l:=[o1,o2]) ?_);have w1:Region.wanted o1 (yielded #[o1,o2] a2.tmps)=true:=by simp [Region.wanted,d2]
 have w2':∀tm,Region.wanted o2 (yielded #[o1,o2] tm)=true:=fun tm=>by simp [Region.wanted,d5]
 unfold wpList;simp only [w1,if_true];refine .inl ?_;unfold Oper.wp;rw [hr1];simp only [Oper.upon];unfold wpList;simp only [w2',if_true];refine .inl ?_;unfold Oper.wp;rw [hr2];simp only [Oper.upon,wpList,Exit.then];rw [d3];have hat4:AtX [dfr g (cap.toList.map (evF fr2))] (fr2.set tc (.func (.func g) #[] (cap.toList.map (evF fr2)).toArray)) ({(a2.put (some tc) (.func (.func g) #[] (cap.toList.map (evF fr2)).toArray))with defers:=dfr g (cap.toList.map (evF fr2))::(a2.put (some tc) (.func (.func g) #[] (cap.toList.map (evF fr2)).toArray)).defers}.put o2.dst undef):=by
  rw [d6];exact⟨hat3.tmps,by show _::_=_;rw [hat3.defers]⟩
 refine Code.wp_mono ?_ (Co B _ _ _ _ _ w2 hat4 m5);intro e a5 w5 h5;have inv:∀w:World,(invoke (.fn (.func g) (cap.toList.map (evF fr2)).toArray) #[]).run P w= .ok (.enter g (cap.toList.map (evF fr2)).toArray) w:=fun w=>by
  simp only [invoke];rw [Array.empty_append];exact hg _ w
 have fin:∀fr,AtX [dfr g (cap.toList.map (evF fr2))] fr a5→Env w2 w5→(Fa P g (cap.toList.map (evF fr2)).toArray .returning .returning w5.heap fun H5=>FT P fn.results.toList fr H5 fun us=>R (KG us) H5)→
   Leaves P fn a5.tmps (fun e w'=>∃v,e= .returned v∧Env w w'∧R v w'.heap) a5.defers .returning w5:=by
  intro fr n1 n2 n3;rw [n1.defers];refine leaves_cons (fun h=>by cases h) (inv w5) ((n3.out_ w5 rfl).mono ?_);rintro e u w6 ⟨rfl,rfl,q1,q2⟩;obtain⟨v,e1,e2⟩:=EY (fn:=fn) (R:=fun v=>R v w6.heap) n1 q2;exact⟨v,e1,v,rfl,(he2.trans n2).trans q1,e2⟩
 cases e with
 | normal=>obtain⟨fr,n1,n2,n3⟩:=h5;exact fin fr n1 n2 n3
 | ret=>obtain⟨fr,n1,n2,n3⟩:=h5;exact fin fr n1 n2 n3
 | exit id=>obtain⟨fr,n1,n2,n3⟩:=h5;exact n3.elim
 | goto l=>obtain⟨fr,n1,n2,n3⟩:=h5;exact n3.elim
 | outgrown=>exact h5.elim
 | panic c=>
   obtain⟨fr,n1,n2,x,rfl,n3⟩:=h5;show Leaves P fn a5.tmps _ a5.defers (.panicking (pe x)) w5;rw [n1.defers];refine leaves_cons (fun h=>by cases h) (inv w5) ((n3.out_ w5 rfl).mono ?_);rintro e u w6 ⟨rfl,rfl,q1,q2⟩;obtain⟨v,e1,e2⟩:=EY (fn:=fn) (R:=fun v=>R v w6.heap) n1 q2;exact⟨v,e1,v,rfl,(he2.trans n2).trans q1,e2⟩
def WE:ResultVar→Nat
 | .tmp t=>t
 | .cell a _=>a
theorem Oj{fr:Fr}{d t:Nat}{v:Value}(h:d≠t):rd (fr.set d v) t=rd fr t:=by
 unfold rd;rw [AcN,AcN,Ab8 h]
theorem MW{P:Program}{fr:Fr}{d:Nat}{v:Value}{H:Aa}:∀{rs:List ResultVar} {R:List Value→Prop},(∀r∈rs,d≠WE r)→FT P rs (fr.set d v) H R→FT P rs fr H R
 | [],R,_,h=>h
 | .tmp t::rs,R,hd,h=>by
   have h':rdK (fr.set d v) t (fun v'=>FT P rs (fr.set d v) H fun vs=>R (v'::vs)):=h;show rdK fr t (fun v'=>FT P rs fr H fun vs=>R (v'::vs));rw [DP]at h' ⊢;have hne:d≠t:=hd _ AcW;rw [Oj hne]at h';exact MW (fun r hr=>hd r (AcU _ hr)) h'
 | .cell x t::rs,R,hd,h=>by
   have h':rdK (fr.set d v) x (fun p=>ldK P t p H fun v'=>FT P rs (fr.set d v) H fun vs=>R (v'::vs)):=h;show rdK fr x (fun p=>ldK P t p H fun v'=>FT P rs fr H fun vs=>R (v'::vs));rw [DP]at h' ⊢;have hne:d≠x:=hd _ AcW;rw [Oj hne]at h';have e:(fun v'=>FT P rs (fr.set d v) H fun vs=>R (v'::vs))=fun v'=>FT P rs (fr.set d v) H fun vs=>R (v'::vs):=rfl;revert h';unfold ldK;generalize rd fr x=p;intro h';split at h'
   ·obtain⟨v',e1,e2⟩:=h'.out_;exact⟨⟨v',e1,MW (fun r hr=>hd r (AcU _ hr)) e2⟩⟩
   ·exact h'.elim
theorem R9{P:Program}{g:FuncId}{vs:Array Value}{rs:List ResultVar}{R:Value→Aa→Prop}{l:List Oper}(hb:(l.all fun o=>match o.dst with | none=>true | some d=>rs.all fun r=> !(d==WE r))=true):
  SC (fun fr4 x H4=>Fa P g vs (.panicking (pe x)) (.panicking [{v:=x,recovered:=true}]) H4 fun H5=>FT P rs fr4 H5 fun us=>R (KG us) H5) l:=by
 intro o ho d hd fr v x H h;have h1:=AcK.1 hb o ho;rw [hd]at h1;refine Fa.mk h.out_ fun H' h2=>MW (fun r hr=>?_) h2;have:=AcK.1 h1 r hr;simpa using this
theorem Al.of_vcL{P:Program}{f:FuncId}{fn:Func}{c:Code}{args:Array Value}{H:Aa}{R:Value→Aa→Prop}(hf:P.funcs[f]? =some fn)(hb:fn.body=some c)
  (hcall:∀w:World,(callFunc f args).run P w= .ok (.enter f args) w)
  (h:MG (args.toList++AaU (fn.ntmps - args.size) undef) fun fr=>vc P c fr H (fun fr' H'=>FT P fn.results.toList fr' H' fun us=>R (KG us) H') [] (fun fr' H'=>FT P fn.results.toList fr' H' fun us=>R (KG us) H')):
  Al P f args H R:=by
 intro w hw;subst hw;refine⟨hcall w,?_⟩;refine calls_of_wp hf hb ?_;rw [GR]at h;have hat:At (args.toList++AaU (fn.ntmps - args.size) undef) {tmps:=args++AbV (fn.ntmps - args.size) undef,defers:=[]}:=⟨by simp,rfl⟩;refine Code.wp_mono ?_ (Ck c _ _ _ _ _ w hat h);intro e a' w' h2;have fin:∀fr,At fr a'→Env w w'→(FT P fn.results.toList fr w'.heap fun us=>R (KG us) w'.heap)→a'.defers=[]∧∃v,(results fn a'.tmps).run P w'= .ok v w'∧∃v',Ending.returned v= .returned v'∧Env w w'∧R v' w'.heap:=by
  intro fr h1 h2 h3;obtain⟨v,hv,hR⟩:=EY (fn:=fn) (ds:=[]) (R:=fun v=>R v w'.heap) ⟨h1.tmps,h1.defers⟩ h3;exact⟨h1.defers,v,hv,v,rfl,h2,hR⟩
 cases e with
 | normal=>obtain⟨fr,h1,h2,h3⟩:=h2;exact fin fr h1 h2 h3
 | ret=>obtain⟨fr,h1,h2,h3⟩:=h2;exact fin fr h1 h2 h3
 | exit id=>obtain⟨fr,h1,h2,h3⟩:=h2;exact h3.elim
 | goto l=>obtain⟨fr,h1,h2,h3⟩:=h2;exact h3.elim
 | panic c=>exact h2.elim
 | outgrown=>exact h2.elim
section
variable{α:Type}{ps qs l:List α}{i j:Nat}{p q:α}
theorem lgL(h:ps[i]? =some p):(ps++qs)[i]? =some p:=by rw [AbD (AaS.1 h).1];exact h
theorem lsL(h:ps[i]? =some p):(ps++qs).set i q=ps.set i q++qs:=AcV _ _ (AaS.1 h).1
theorem lgR(ps l:List α)(j:Nat):(ps++l)[ps.length+j]? =l[j]? :=by
 rw [AaT (Ad1 _ _)];congr 1;omega
theorem lsR(ps l:List α)(j:Nat)(x:α):(ps++l).set (ps.length+j) x=ps++l.set j x:=by
 rw [AcT _ _ (Ad1 _ _)];congr 2;omega
theorem lgS(h:ps[i]? =some p):(ps.set i q)[i]? =some q:=AbM (AaS.1 h).1
theorem lset(h:ps[i]? =some p):ps.set i p=ps:=by
 refine AcF fun j=>?_;by_cases hj:i=j
 ·subst hj;rw [lgS h,h]
 ·rw [Ab8 hj]
theorem Es(ps l:List α):(ps++l)[ps.length]? =l[0]? :=lgR ps l 0
theorem QA(ps l:List α)(x:α):(ps++l).set ps.length x=ps++l.set 0 x:=lsR ps l 0 x
end
section
variable{B:Nat→Prop}{H0 H:Aa}{ps qs:List Pc}{e:TypeId}{b:Nat}{l:List Value}
theorem StB.lft(st:StB B H0 H (ps++qs)):StB B H0 H ps:=
 ⟨st.old,st.lt0,st.size,fun p hp=>st.oks p (AbH _ hp),fun p hp=>st.rng p (AbH _ hp),(AcL.1 st.dis).1⟩
theorem StB.subl(st:StB B H0 H ps)(h:List.Sublist qs ps):StB B H0 H qs:=
 ⟨st.old,st.lt0,st.size,fun p hp=>st.oks p (h.subset hp),fun p hp=>st.rng p (h.subset hp),st.dis.sublist h⟩
theorem Br{P:Program}{t o:Nat}{cs:List Value}{K:Aa→Prop}(st:StB B H0 H ps)(i:Nat)(ht:(P.info? t).map (·.size)=some cs.length)(hp:ps[i]? =some (pB e b l))(ho:o+cs.length≤l.length)(hv:cs.all (·.oneCell')=true)
  (k:∀H',StB B H0 H' (ps.set i (pB e b (Ai l o cs)))→Agr (fun k=>k≠b) H H'→H'.size=H.size→K H'):CY P (Instr.storeAt t (.pointer (some ⟨b,o,none⟩)) (.agg cs.toArray)) H K:=by
 refine VC.stN ht (st.at_ i hp) ho hv ?_;intro H' hb' ha' hs';exact k H' (st.upd i hp (ha'.mono fun k hk hkb=>hk.2 hkb) _ hb' (fun k hk=>.inl hk) (fun k hk=>by rw [hs'];exact(st.in_ i hp hk).2) (by omega)) ha' hs'
theorem TG{P:Program}{t o:Nat}{v:Value}{K:Aa→Prop}(st:StB B H0 H ps)(i:Nat)(ht:Cb P t)(hp:ps[i]? =some (pB e b l))(ho:o<l.length)(hv:v.oneCell'=true)
  (k:∀H',StB B H0 H' (ps.set i (pB e b (l.set o v)))→Agr (fun k=>k≠b) H H'→H'.size=H.size→K H'):CY P (Instr.storeAt t (.pointer (some ⟨b,o,none⟩)) v) H K:=by
 refine VC.st1 ht (st.at_ i hp) ho hv ?_;intro H' hb' ha' hs';exact k H' (st.upd i hp (ha'.mono fun k hk hkb=>hk.2 hkb) _ hb' (fun k hk=>.inl hk) (fun k hk=>by rw [hs'];exact(st.in_ i hp hk).2) (by omega)) ha' hs'
theorem AD{l cs:List Value}(h:cs.length=l.length):Ai l 0 cs=cs:=by unfold Ai;simp [h]
end
end Go.VC
namespace Go.Proofs.YtfbghcpdinlmcaaGreatDoor
open Go.VC Go.Lib
def bt(t:ByteArray)(i:Nat):Nat:=match t.data[i]? with
 | some b=>b.toNat
 | none=>256
theorem Di{t:ByteArray}{i:Nat}(h:i<t.size):∃b,t.data[i]? =some b∧bt t i=b.toNat∧bt t i<256:=by
 have hl:i<t.data.size:=h;refine⟨t.data[i],AbX hl,?_,?_⟩
 ·unfold bt;rw [AbX hl]
 ·unfold bt;rw [AbX hl];exact UInt8.toNat_lt _
theorem Cy{t:ByteArray}{i:Nat}(h:¬i<t.size):bt t i=256:=by
 have hl:¬i<t.data.size:=h;unfold bt;rw [Array.getElem?_eq_none (by omega)]
theorem D2{t:ByteArray}{i:Nat}(h:bt t i≠256):i<t.size:=by
 apply Classical.byContradiction;intro hn;exact h (Cy hn)
def Dz(c:Nat):Option Nat:=if 48≤c∧c≤57 then some (c - 48)else if 97≤c∧c≤102 then some (c - 87)else none
theorem Hi{c v:Nat}(h:Dz c=some v):v<16:=by
 unfold Dz at h;split at h
 ·cases h;omega
 ·split at h
  ·cases h;omega
  ·cases h
def XY:ByteArray:=⟨#[48,49,50,51,52,53,54,55,56,57,97,98,99,100,101,102]⟩
theorem RR(c:Nat)(hc:c<256):indexByte XY.data.toList (UInt8.ofNat c)=match Dz c with | some v=>(v:Int) | none=> -1:=by
 have:∀c:Fin 256,indexByte XY.data.toList (UInt8.ofNat c.1)=match Dz c.1 with | some v=>(v:Int) | none=> -1:=by decide+kernel
 exact this ⟨c,hc⟩
def GL(t:ByteArray)(i:Nat):Sum Nat (Nat×Nat):=
 if bt t i=256 then .inl i else if bt t i=110 then .inr (10,i+1)else if bt t i=114 then .inr (13,i+1)else if bt t i=116 then .inr (9,i+1)
 else if bt t i=120 then match Dz (bt t (i+1))with
  | none=>.inl (i+1)
  | some a=>match Dz (bt t (i+2))with
    | none=>.inl (i+2)
    | some b=>.inr (16*a+b,i+3)
 else if bt t i<32∨126<bt t i∨(48≤bt t i∧bt t i≤57)∨(97≤bt t i∧bt t i≤122)∨(65≤bt t i∧bt t i≤90)then .inl i else .inr (bt t i,i+1)
def BA(t s:ByteArray)(i:Nat):Sum Nat (Nat×Nat):=
 if bt t i=92 then GL t (i+1)else if bt t i<32∨126<bt t i∨spB s (bt t i)=true then .inl i else .inr (bt t i,i+1)
def GJ(t:ByteArray)(lo j:Nat)(x:BitVec 256)(f:Nat→BitVec 256→Sum Nat (BitVec 256×Nat)):Sum Nat (BitVec 256×Nat):=
 if bt t j=45 then(match BA t DD (j+1)with
  | .inl e=>.inl e
  | .inr (hi,k)=>if hi<lo then .inl (j+1)else f k (x ||| A8 lo hi))
 else f j (x ||| A8 lo lo)
def CX(t:ByteArray):Nat→Nat→BitVec 256→Sum Nat (BitVec 256×Nat)
 | 0,i,_=>.inl i
 | n+1,i,x=>if bt t i=93 then .inr (x,i+1)else match BA t DD i with
   | .inl e=>.inl e
   | .inr (lo,j)=>GJ t lo j x (CX t n)
def HO(t:ByteArray)(i:Nat):Sum Nat (BitVec 256×Nat):=
 match CX t (t.size+1) (if bt t i=94 then i+1 else i) 0#256 with
 | .inl e=>.inl e
 | .inr (x,k)=>.inr (if bt t i=94 then ~~~x else x,k)
def BE(t:ByteArray)(i:Nat):Sum Nat (BitVec 256×Nat):=
 if bt t i=46 then .inr (~~~(A8 10 10),i+1)else if bt t i=91 then HO t (i+1)else match BA t E6 i with
 | .inl e=>.inl e
 | .inr (b,k)=>.inr (A8 b b,k)
theorem XE{t:ByteArray}{i:Nat}{c j:Nat}(h:GL t i= .inr (c,j)):c<256∧i<j∧j≤t.size:=by
 unfold GL at h;split at h
 ·cases h
 ·rename_i h0;have hi:=D2 h0;obtain⟨b,-,-,hb⟩:=Di hi;split at h
  ·cases h;omega
  ·split at h
   ·cases h;omega
   ·split at h
    ·cases h;omega
    ·split at h
     ·split at h
      ·cases h
      ·rename_i a ha;split at h
       ·cases h
       ·rename_i b2 hb2;cases h;have h1:=Hi ha;have h2:=Hi hb2;have h3:i+2<t.size:=D2 fun e=>by rw [e]at hb2;cases hb2
        omega
     ·split at h
      ·cases h
      ·cases h;omega
theorem Dd{t s:ByteArray}{i:Nat}{c j:Nat}(h:BA t s i= .inr (c,j)):c<256∧i<j∧j≤t.size:=by
 unfold BA at h;split at h
 ·have:=XE h;omega
 ·split at h
  ·cases h
  ·rename_i h1;cases h;have hi:i<t.size:=D2 fun e=>h1 (.inr (.inl (by omega)));obtain⟨b,-,-,hb⟩:=Di hi;omega
theorem Pv{t:ByteArray}:∀{n i:Nat} {x y:BitVec 256} {k:Nat},CX t n i x= .inr (y,k)→i<k∧k≤t.size
 | 0,i,x,y,k,h=>by cases h
 | n+1,i,x,y,k,h=>by
   unfold CX at h;split at h
   ·rename_i h0;cases h;have hi:i<t.size:=D2 fun e=>by omega
    omega
   ·split at h
    ·cases h
    ·rename_i lo j h1;have:=Dd h1;unfold GJ at h;split at h
     ·split at h
      ·cases h
      ·rename_i hi k2 h2;have:=Dd h2;split at h
       ·cases h
       ·have:=Pv h;omega
     ·have:=Pv h;omega
theorem Ju{t:ByteArray}{i:Nat}{y:BitVec 256}{k:Nat}(h:BE t i= .inr (y,k)):i<k∧k≤t.size:=by
 unfold BE at h;split at h
 ·rename_i h0;cases h;have hi:i<t.size:=D2 fun e=>by omega
  omega
 ·split at h
  ·unfold HO at h;split at h
   ·cases h
   ·rename_i x k2 h1;cases h;have:=Pv h1;split at this<;>omega
  ·split at h
   ·cases h
   ·rename_i b k2 h1;cases h;have:=Dd h1;omega
theorem Fz:Tryz.prog.underlying 9=some .string:=rfl
abbrev rdL(t:ByteArray)(i:Nat):List Value:=[.string t,.int .i64 (i:Int)]
abbrev pRd(r:Nat)(t:ByteArray)(i:Nat):Pc:=pB 357 r (rdL t i)
def Ee(c i:Nat):Value:=.iface 68 (.agg #[.int .i64 (c:Int),.int .i64 (i:Int),.string ⟨#[]⟩])
theorem Ig{H:Aa}{r i:Nat}{t:ByteArray}(hb:Blk H r 357 (rdL t i)):BX Tryz.prog 245 #[.pointer (some ⟨r,0,none⟩)] H (.tuple #[.int .u8 (if bt t i=256 then 0 else(bt t i:Int)),.bool (decide (bt t i≠256))]):=by
 refine Al.of_vc Tryz.func245 rfl (Tryz.call245 _) (Ar.lex rfl (by kernel_rfl) (VC.fa AC ?_));refine ld1 (v:=.int .i64 (i:Int)) ct3 (by rw [hb.cell];rfl) trivial ?_;refine VC.fa Pf ?_;refine ld1 (v:=.string t) ct9 (by rw [hb.cell];rfl) trivial ?_;by_cases hi:i<t.size
 ·obtain⟨b,h1,h2,h3⟩:=Di hi;have d1:decide ((i:Int)<(t.size:Int))=true:=decide_eq_true (by omega);(conv=>whnf);rw [d1];refine Ar.lex rfl (by kernel_rfl) (VC.fa Pf ?_);refine ld1 (v:=.string t) ct9 (by rw [hb.cell];rfl) trivial ?_;refine VC.fa AC ?_;refine ld1 (v:=.int .i64 (i:Int)) ct3 (by rw [hb.cell];rfl) trivial ?_;refine DJ Fz rfl h1 ?_;(conv=>whnf);refine⟨?_,Agr.refl _ _⟩;rw [if_neg (by omega),decide_eq_true (by omega),h2]
 ·have h2:=Cy hi;have d1:decide ((i:Int)<(t.size:Int))=false:=decide_eq_false (by omega);(conv=>whnf);rw [d1];(conv=>whnf);refine⟨?_,Agr.refl _ _⟩;rw [if_pos h2,decide_eq_false (by omega)]
theorem Dx{H:Aa}{r:Nat}{e:Nat}:BW Tryz.prog 246 #[.pointer (some ⟨r,0,none⟩),.int .i64 (e:Int)] H (fun _ _=>False) (fun x H'=>x=Ee 10 e∧H'=H):=by
 refine BW.of_vc Tryz.func246 rfl (Tryz.call246 _) (Aw Tryz.underlying68 rfl _ rfl [.int .i64 10,.int .i64 (e:Int),.string ⟨#[]⟩] rfl ?_);(conv=>whnf);exact⟨rfl,rfl⟩
theorem CE{α:Type}{ps:List α}{i:Nat}{p:α}(h:ps[i]? =some p):ps.set i p=ps:=by
 refine AcF fun j=>?_;by_cases hj:i=j
 ·subst hj;rw [AbM (AaS.1 h).1,h]
 ·rw [Ab8 hj]
theorem IF{α:Type}{ps:List α}{i:Nat}{p q:α}(h:ps[i]? =some p):(ps.set i q)[i]? =some q:=AbM (AaS.1 h).1
theorem Zd{B:Nat→Prop}{H0 H:Aa}{ps:List Pc}{k r i:Nat}{t:ByteArray}(ht:t.size≤1152921504606846976)(st:StB B H0 H ps)(hp:ps[k]? =some (pRd r t i)):
  BW Tryz.prog 248 #[.pointer (some ⟨r,0,none⟩)] H (fun v H'=>∃c:Nat,Dz (bt t i)=some c∧v= .int .u8 (c:Int)∧StB B H0 H' (ps.set k (pRd r t (i+1))))
   (fun x H'=>Dz (bt t i)=none∧x=Ee 10 i∧StB B H0 H' (ps.set k (pRd r t i))):=by
 refine BW.of_vc Tryz.func248 rfl (Tryz.call248 _) (Ah.of (Am (Ig (st.blk k hp)) fun H1 ha1=>?_));have st1:=st.call ha1;by_cases h0:bt t i=256
 ·rw [if_pos h0,decide_eq_false (by omega)];refine Ah.of (Am (Pl XY 0 H1) fun H2 ha2=>?_);have st2:=st1.call ha2;refine Bb.run (VC.fa AC ?_);refine ld1 (v:=.int .i64 ((i:Nat):Int)) ct3 (by rw [(st2.blk k hp).cell];rfl) trivial ?_;refine Ah.mk Dx (fun _ _ h=>h.elim) ?_;rintro _ _ ⟨rfl,rfl⟩;exact⟨by rw [h0];rfl,rfl,by rw [CE hp];exact st2⟩
 ·have hi:=D2 h0;obtain⟨b,hb1,hb2,hb3⟩:=Di hi;rw [if_neg h0,decide_eq_true (by omega)];refine Ah.of (Am (Pl XY (bt t i) H1) fun H2 ha2=>?_);have st2:=st1.call ha2;rw [RR _ hb3];cases hx:Dz (bt t i)with
  | none=>
    refine Bb.run (VC.fa AC ?_);refine ld1 (v:=.int .i64 ((i:Nat):Int)) ct3 (by rw [(st2.blk k hp).cell];rfl) trivial ?_;refine Ah.mk Dx (fun _ _ h=>h.elim) ?_;rintro _ _ ⟨rfl,rfl⟩;exact⟨rfl,rfl,by rw [CE hp];exact st2⟩
  | some c=>
    have hc:=Hi hx;have d1:decide ((c:Int)<0)=false:=decide_eq_false (by omega);refine Bb.run ?_;(conv=>whnf);rw [d1];refine VC.fa AC ?_;refine ld1 (v:=.int .i64 ((i:Nat):Int)) ct3 (by rw [(st2.blk k hp).cell];rfl) trivial ?_;(conv=>whnf);rw [w64 (x:=((i:Nat):Int)+1) (by omega) (by omega)];refine VC.fa AC (AZ st2 k ct3 hp (by simp) rfl fun H3 st3=>?_);(conv=>whnf);rw [w8 (x:=(c:Int)) (by omega) (by omega)];(conv=>whnf);exact⟨c,rfl,rfl,st3⟩
theorem Jg{B:Nat→Prop}{H0 H:Aa}{ps:List Pc}(hE:Gu H0)(hB:B 0)(st:StB B H0 H ps):Gu H:=
 ⟨hE.1.eq (st.old _ hB),st.up hB⟩
theorem or16{a b:Nat}(hb:b<16):a*2 ^ 4 ||| b=16*a+b:=by
 have:=Nat.two_pow_add_eq_or_of_lt (i:=4) (b:=b) (by simpa using hb) a;rw [Nat.mul_comm a,←this]
theorem VF{B:Nat→Prop}{H0 H:Aa}{ps:List Pc}{k r i:Nat}{t:ByteArray}(hE:Gu H0)(hEB:B 0)(ht:t.size≤1152921504606846976)(st:StB B H0 H ps)(hp:ps[k]? =some (pRd r t i)):
  BW Tryz.prog 247 #[.pointer (some ⟨r,0,none⟩)] H (fun v H'=>∃c j:Nat,GL t i= .inr (c,j)∧v= .int .u8 (c:Int)∧StB B H0 H' (ps.set k (pRd r t j)))
   (fun x H'=>∃e j:Nat,GL t i= .inl e∧x=Ee 10 e∧StB B H0 H' (ps.set k (pRd r t j))):=by
 refine BW.of_vc Tryz.func247 rfl (Tryz.call247 _) (Ah.of (Am (Ig (st.blk k hp)) fun H1 ha1=>?_));have st1:=st.call ha1;by_cases h0:bt t i=256
 ·rw [if_pos h0,decide_eq_false (by omega)];refine Bb.run ?_;(conv=>whnf);refine VC.fa AC ?_;refine ld1 (v:=.int .i64 ((i:Nat):Int)) ct3 (by rw [(st1.blk k hp).cell];rfl) trivial ?_;refine Ah.mk Dx (fun _ _ h=>h.elim) ?_;rintro _ _ ⟨rfl,rfl⟩;exact⟨i,i,by unfold GL;rw [if_pos h0],rfl,by rw [CE hp];exact st1⟩
 have hi:=D2 h0;obtain⟨b,hb1,hb2,hb3⟩:=Di hi;rw [if_neg h0,decide_eq_true (by omega)];obtain⟨c,hc⟩:∃c,c=bt t i:=⟨_,rfl⟩;rw [←hc]at h0 hb3 ⊢;refine Bb.run (ldN (cs:=VB) AaZ (Jg hE hEB st1).1 trivial ?_);(conv=>whnf);refine EG.mk [22] (fun n:Nat=>[.int .i64 (n:Int)]) (fun n H1=>n≤3∧(∀j,j<n→(OW j).1≠c)∧StB B H0 H1 ps) (fun n _=>3 - n) ?_ ?_
 ·(conv=>whnf);exact⟨0,rfl,by omega,fun j hj=>by omega,st1⟩
 ·rintro n G junk1 ⟨hn,hno,stg⟩;refine AN.mk (fun hz=>?_) (fun hz=>?_)<;>simp only [decide_eq_true_eq,decide_eq_false_iff_not]at hz
  ·have hex:VB.toArray.extract (n*2) (n*2+2)= #[.int .u8 ((OW n).1:Int),.int .u8 ((OW n).2:Int)]:=by
    have:n=0∨n=1∨n=2:=by omega
    rcases this with rfl | rfl | rfl<;>rfl
   have hsg:(OW n).1=c→GL t i= .inr ((OW n).2,i+1):=fun e=>by
    have:n=0∨n=1∨n=2:=by omega
    unfold GL;rw [←hc,if_neg h0];rcases this with rfl | rfl | rfl<;>(subst e;rfl)
   have h1b:(OW n).1<256∧(OW n).2<256:=by
    have:n=0∨n=1∨n=2:=by omega
    rcases this with rfl | rfl | rfl<;>decide
   refine ixvN Ab2 AaY (by omega) (by omega) ?_;rw [AcZ,hex];generalize hl:(OW n).1=l at*;generalize (OW n).2=v at*;refine An (.agg #[.int .u8 0,.int .u8 0]) [.int .u8 0,.int .u8 0] AbB rfl ?_;intro p2 H2 hp2 hs2 hb2 ha2;have st2:=stg.box hp2 hs2 hb2 ha2;refine AI (cs:=[.int .u8 (l:Int),.int .u8 (v:Int)]) st2 ps.length rfl (by rw [AaT (AaV _),AcP];rfl) (AaV _) rfl fun H3 st3=>?_;rw [AcT _ _ (AaV _),AcP,Ax (by rfl)]at st3;have hb3:Blk H3 p2 335 [.int .u8 (l:Int),.int .u8 (v:Int)]:=st3.blk ps.length (by rw [AaT (AaV _),AcP];rfl);have hpk:(ps++[pB 335 p2 [.int .u8 (l:Int),.int .u8 (v:Int)]])[k]? =some (pRd r t i):=by
    rw [AbD (AaS.1 hp).1];exact hp
   have cutR:∀{H':Aa} {q:Pc},StB B H0 H' ((ps++[pB 335 p2 [.int .u8 (l:Int),.int .u8 (v:Int)]]).set k q)→StB B H0 H' (ps.set k q):=fun h=>by
    rw [AcV _ _ (AaS.1 hp).1]at h;exact⟨h.old,h.lt0,h.size,fun p hp=>h.oks p (AbH _ hp),fun p hp=>h.rng p (AbH _ hp),(AcL.1 h.dis).1⟩
   (conv=>whnf);try (refine Bb.run ?_)
   refine VC.fa XP ?_;refine ld1 (v:=.int .u8 (l:Int)) ct5 (by rw [hb3.cell];rfl) trivial ?_;by_cases he:l=c
   ·have d1:((l:Int)==(c:Int))=true:=by rw [he];exact beq_self_eq_true _
    (conv=>whnf);rw [d1];refine VC.fa AC ?_;refine ld1 (v:=.int .i64 ((i:Nat):Int)) ct3 (by rw [(st3.blk k hpk).cell];rfl) trivial ?_;(conv=>whnf);rw [w64 (x:=((i:Nat):Int)+1) (by omega) (by omega)];refine VC.fa AC (AZ st3 k ct3 hpk (by simp) rfl fun H4 st4=>?_);have hb4:Blk H4 p2 335 [.int .u8 (l:Int),.int .u8 (v:Int)]:=st4.blk ps.length (by
     rw [Ab8 (by have:=(AaS.1 hp).1;omega),AaT (AaV _),AcP];rfl)
    refine VC.fa XQ ?_;refine ld1 (v:=.int .u8 (v:Int)) ct5 (by rw [hb4.cell];rfl) trivial ?_;(conv=>whnf);exact⟨v,i+1,hsg he,rfl,cutR st4⟩
   ·have d1:((l:Int)==(c:Int))=false:=beq_eq_false_iff_ne.2 (by omega);(conv=>whnf);rw [d1];(conv=>whnf);rw [w64 (x:=(n:Int)+1) (by omega) (by omega)];refine⟨rfl,n+1,rfl,⟨by omega,fun j hj=>?_,⟨st3.old,st3.lt0,st3.size,fun p hp=>st3.oks p (AbH _ hp),fun p hp=>st3.rng p (AbH _ hp),(AcL.1 st3.dis).1⟩⟩,by omega⟩;rcases Nat.lt_or_eq_of_le (Nat.le_of_lt_succ hj)with hj | rfl
    ·exact hno j hj
    ·rw [hl];exact he
  ·obtain rfl:n=3:=by omega
   have n0:(110:Nat)≠c:=hno 0 (by omega);have n1:(114:Nat)≠c:=hno 1 (by omega);have n2:(116:Nat)≠c:=hno 2 (by omega);have hes:GL t i=(if c=120 then match Dz (bt t (i+1))with
     | none=>.inl (i+1)
     | some a=>match Dz (bt t (i+2))with
       | none=>.inl (i+2)
       | some b=>.inr (16*a+b,i+3)
    else if c<32∨126<c∨(48≤c∧c≤57)∨(97≤c∧c≤122)∨(65≤c∧c≤90)then .inl i else .inr (c,i+1)):=by
    unfold GL;rw [←hc,if_neg h0,if_neg (Ne.symm n0),if_neg (Ne.symm n1),if_neg (Ne.symm n2)]
   by_cases hx:c=120
   ·rw [if_pos hx]at hes;have d1:((c:Int)==(120:Int))=true:=by rw [hx];rfl
    (conv=>whnf);try (refine Bb.run ?_)
    (conv=>whnf);rw [d1];refine VC.fa AC ?_;refine ld1 (v:=.int .i64 ((i:Nat):Int)) ct3 (by rw [(stg.blk k hp).cell];rfl) trivial ?_;(conv=>whnf);rw [w64 (x:=((i:Nat):Int)+1) (by omega) (by omega)];refine VC.fa AC (AZ stg k ct3 hp (by simp) rfl fun H4 st4=>?_);have hp4:(ps.set k (pRd r t (i+1)))[k]? =some (pRd r t (i+1)):=IF hp;replace st4:StB B H0 H4 (ps.set k (pRd r t (i+1))):=st4;refine Ah.mk (Zd ht st4 hp4) ?_ ?_
    ·rintro _ H5 ⟨a,ha,rfl,st5⟩;have hal:=Hi ha;rw [Ac5]at st5;have hp5:(ps.set k (pRd r t (i+1+1)))[k]? =some (pRd r t (i+1+1)):=IF hp;refine AaL (b:=4) (by decide) (RS (by omega)) (Ah.mk (Zd ht st5 hp5) ?_ ?_)
     ·rintro _ H6 ⟨b2,hb2',rfl,st6⟩;have hbl:=Hi hb2';rw [Ac5]at st6;refine vor (RS (by omega)) (RS (by omega)) ?_;rw [or16 hbl];(conv=>whnf);exact⟨16*a+b2,i+3,by rw [hes,ha];show(match Dz (bt t (i+1+1))with | none=>_ | some b=>_)=_;rw [hb2'],rfl,st6⟩
     ·rintro _ H6 ⟨hn,rfl,st6⟩;rw [Ac5]at st6;exact⟨i+2,i+2,by rw [hes,ha];show(match Dz (bt t (i+1+1))with | none=>_ | some b=>_)=_;rw [hn],rfl,st6⟩
    ·rintro _ H5 ⟨hn,rfl,st5⟩;rw [Ac5]at st5;exact⟨i+1,i+1,by rw [hes,hn],rfl,st5⟩
   ·rw [if_neg hx]at hes;have d1:((c:Int)==(120:Int))=false:=beq_eq_false_iff_ne.2 (by omega);(conv=>whnf);try (refine Bb.run ?_)
    (conv=>whnf);rw [d1];clear d1;refine Bb.run ?_;(conv=>whnf);by_cases hq00:c<32
    ·skip
     have d1:decide ((c:Int)<32)=true:=decide_eq_true (by omega);(conv=>whnf);rw [d1];clear d1;(conv=>whnf);refine VC.fa AC ?_;refine ld1 (v:=.int .i64 ((i:Nat):Int)) ct3 (by rw [(stg.blk k hp).cell];rfl) trivial ?_;refine Ah.mk Dx (fun _ _ h=>h.elim) ?_;rintro _ _ ⟨rfl,rfl⟩;exact⟨i,i,by rw [hes,if_pos (by omega)],rfl,by rw [CE hp];exact stg⟩
    ·skip
     have d1:decide ((c:Int)<32)=false:=decide_eq_false (by omega);(conv=>whnf);rw [d1];clear d1;by_cases hq10:126<c
     ·skip
      have d1:decide ((c:Int)>126)=true:=decide_eq_true (by omega);(conv=>whnf);rw [d1];clear d1;(conv=>whnf);refine VC.fa AC ?_;refine ld1 (v:=.int .i64 ((i:Nat):Int)) ct3 (by rw [(stg.blk k hp).cell];rfl) trivial ?_;refine Ah.mk Dx (fun _ _ h=>h.elim) ?_;rintro _ _ ⟨rfl,rfl⟩;exact⟨i,i,by rw [hes,if_pos (by omega)],rfl,by rw [CE hp];exact stg⟩
     ·skip
      have d1:decide ((c:Int)>126)=false:=decide_eq_false (by omega);(conv=>whnf);rw [d1];clear d1;by_cases hq20:48≤c
      ·skip
       have d1:decide ((c:Int)≥48)=true:=decide_eq_true (by omega);(conv=>whnf);rw [d1];clear d1;by_cases hq21:c≤57
       ·skip
        have d1:decide ((c:Int)≤57)=true:=decide_eq_true (by omega);(conv=>whnf);rw [d1];clear d1;(conv=>whnf);refine VC.fa AC ?_;refine ld1 (v:=.int .i64 ((i:Nat):Int)) ct3 (by rw [(stg.blk k hp).cell];rfl) trivial ?_;refine Ah.mk Dx (fun _ _ h=>h.elim) ?_;rintro _ _ ⟨rfl,rfl⟩;exact⟨i,i,by rw [hes,if_pos (by omega)],rfl,by rw [CE hp];exact stg⟩
       ·skip
        have d1:decide ((c:Int)≤57)=false:=decide_eq_false (by omega);(conv=>whnf);rw [d1];clear d1;by_cases hq30:97≤c
        ·skip
         have d1:decide ((c:Int)≥97)=true:=decide_eq_true (by omega);(conv=>whnf);rw [d1];clear d1;by_cases hq31:c≤122
         ·skip
          have d1:decide ((c:Int)≤122)=true:=decide_eq_true (by omega);(conv=>whnf);rw [d1];clear d1;(conv=>whnf);refine VC.fa AC ?_;refine ld1 (v:=.int .i64 ((i:Nat):Int)) ct3 (by rw [(stg.blk k hp).cell];rfl) trivial ?_;refine Ah.mk Dx (fun _ _ h=>h.elim) ?_;rintro _ _ ⟨rfl,rfl⟩;exact⟨i,i,by rw [hes,if_pos (by omega)],rfl,by rw [CE hp];exact stg⟩
         ·skip
          have d1:decide ((c:Int)≤122)=false:=decide_eq_false (by omega);(conv=>whnf);rw [d1];clear d1;have d1:decide ((c:Int)≥65)=true:=decide_eq_true (by omega);(conv=>whnf);rw [d1];clear d1;have d1:decide ((c:Int)≤90)=false:=decide_eq_false (by omega);(conv=>whnf);rw [d1];clear d1;(conv=>whnf);refine VC.fa AC ?_;refine ld1 (v:=.int .i64 ((i:Nat):Int)) ct3 (by rw [(stg.blk k hp).cell];rfl) trivial ?_;(conv=>whnf);rw [w64 (x:=((i:Nat):Int)+1) (by omega) (by omega)];refine VC.fa AC (AZ stg k ct3 hp (by simp) rfl fun H4 st4=>?_);(conv=>whnf);exact⟨c,i+1,by rw [hes,if_neg (by omega)],rfl,st4⟩
        ·skip
         have d1:decide ((c:Int)≥97)=false:=decide_eq_false (by omega);(conv=>whnf);rw [d1];clear d1;by_cases hq40:65≤c
         ·skip
          have d1:decide ((c:Int)≥65)=true:=decide_eq_true (by omega);(conv=>whnf);rw [d1];clear d1;by_cases hq41:c≤90
          ·skip
           have d1:decide ((c:Int)≤90)=true:=decide_eq_true (by omega);(conv=>whnf);rw [d1];clear d1;(conv=>whnf);refine VC.fa AC ?_;refine ld1 (v:=.int .i64 ((i:Nat):Int)) ct3 (by rw [(stg.blk k hp).cell];rfl) trivial ?_;refine Ah.mk Dx (fun _ _ h=>h.elim) ?_;rintro _ _ ⟨rfl,rfl⟩;exact⟨i,i,by rw [hes,if_pos (by omega)],rfl,by rw [CE hp];exact stg⟩
          ·skip
           have d1:decide ((c:Int)≤90)=false:=decide_eq_false (by omega);(conv=>whnf);rw [d1];clear d1;(conv=>whnf);refine VC.fa AC ?_;refine ld1 (v:=.int .i64 ((i:Nat):Int)) ct3 (by rw [(stg.blk k hp).cell];rfl) trivial ?_;(conv=>whnf);rw [w64 (x:=((i:Nat):Int)+1) (by omega) (by omega)];refine VC.fa AC (AZ stg k ct3 hp (by simp) rfl fun H4 st4=>?_);(conv=>whnf);exact⟨c,i+1,by rw [hes,if_neg (by omega)],rfl,st4⟩
         ·skip
          have d1:decide ((c:Int)≥65)=false:=decide_eq_false (by omega);(conv=>whnf);rw [d1];clear d1;(conv=>whnf);refine VC.fa AC ?_;refine ld1 (v:=.int .i64 ((i:Nat):Int)) ct3 (by rw [(stg.blk k hp).cell];rfl) trivial ?_;(conv=>whnf);rw [w64 (x:=((i:Nat):Int)+1) (by omega) (by omega)];refine VC.fa AC (AZ stg k ct3 hp (by simp) rfl fun H4 st4=>?_);(conv=>whnf);exact⟨c,i+1,by rw [hes,if_neg (by omega)],rfl,st4⟩
      ·skip
       have d1:decide ((c:Int)≥48)=false:=decide_eq_false (by omega);(conv=>whnf);rw [d1];clear d1;have d1:decide ((c:Int)≥97)=false:=decide_eq_false (by omega);(conv=>whnf);rw [d1];clear d1;have d1:decide ((c:Int)≥65)=false:=decide_eq_false (by omega);(conv=>whnf);rw [d1];clear d1;(conv=>whnf);refine VC.fa AC ?_;refine ld1 (v:=.int .i64 ((i:Nat):Int)) ct3 (by rw [(stg.blk k hp).cell];rfl) trivial ?_;(conv=>whnf);rw [w64 (x:=((i:Nat):Int)+1) (by omega) (by omega)];refine VC.fa AC (AZ stg k ct3 hp (by simp) rfl fun H4 st4=>?_);(conv=>whnf);exact⟨c,i+1,by rw [hes,if_neg (by omega)],rfl,st4⟩
theorem Hm{B:Nat→Prop}{H0 H:Aa}{ps:List Pc}{k r i:Nat}{t s:ByteArray}(hE:Gu H0)(hEB:B 0)(ht:t.size≤1152921504606846976)(st:StB B H0 H ps)(hp:ps[k]? =some (pRd r t i)):
  BW Tryz.prog 242 #[.pointer (some ⟨r,0,none⟩),.string s] H (fun v H'=>∃c j:Nat,BA t s i= .inr (c,j)∧v= .int .u8 (c:Int)∧StB B H0 H' (ps.set k (pRd r t j)))
   (fun x H'=>∃e j:Nat,BA t s i= .inl e∧x=Ee 10 e∧StB B H0 H' (ps.set k (pRd r t j))):=by
 refine BW.of_vc Tryz.func242 rfl (Tryz.call242 _) (Ah.of (Am (Ig (st.blk k hp)) fun H1 ha1=>?_));have st1:=st.call ha1;by_cases h0:bt t i=256
 ·rw [if_pos h0,decide_eq_false (by omega)];refine Bb.run ?_;(conv=>whnf);refine VC.fa AC ?_;refine ld1 (v:=.int .i64 ((i:Nat):Int)) ct3 (by rw [(st1.blk k hp).cell];rfl) trivial ?_;refine Ah.mk Dx (fun _ _ h=>h.elim) ?_;rintro _ _ ⟨rfl,rfl⟩;exact⟨i,i,by unfold BA;rw [h0,if_neg (by decide),if_pos (.inr (.inl (by decide)))],rfl,by rw [CE hp];exact st1⟩
 have hi:=D2 h0;obtain⟨b,hb1,hb2,hb3⟩:=Di hi;rw [if_neg h0,decide_eq_true (by omega)];obtain⟨c,hc⟩:∃c,c=bt t i:=⟨_,rfl⟩;rw [←hc]at h0 hb3 ⊢;by_cases h92:c=92
 ·have d1:((c:Int)==(92:Int))=true:=by rw [h92];rfl
  have ho:BA t s i=GL t (i+1):=by unfold BA;rw [←hc,if_pos h92]
  (conv=>whnf);rw [d1];refine VC.fa AC ?_;refine ld1 (v:=.int .i64 ((i:Nat):Int)) ct3 (by rw [(st1.blk k hp).cell];rfl) trivial ?_;(conv=>whnf);rw [w64 (x:=((i:Nat):Int)+1) (by omega) (by omega)];refine VC.fa AC (AZ st1 k ct3 hp (by simp) rfl fun H4 st4=>?_);replace st4:StB B H0 H4 (ps.set k (pRd r t (i+1))):=st4;have hp4:(ps.set k (pRd r t (i+1)))[k]? =some (pRd r t (i+1)):=IF hp;refine Ah.mk (VF hE hEB ht st4 hp4) ?_ ?_
  ·rintro _ H5 ⟨a,j,ha,rfl,st5⟩;rw [Ac5]at st5;(conv=>whnf);exact⟨a,j,by rw [ho];exact ha,rfl,st5⟩
  ·rintro _ H5 ⟨e,j,ha,rfl,st5⟩;rw [Ac5]at st5;exact⟨e,j,by rw [ho];exact ha,rfl,st5⟩
 have d0:((c:Int)==(92:Int))=false:=beq_eq_false_iff_ne.2 (by omega);have ho:BA t s i=if c<32∨126<c∨spB s c=true then .inl i else .inr (c,i+1):=by unfold BA;rw [←hc,if_neg h92]
 (conv=>whnf);rw [d0];refine Bb.run ?_;(conv=>whnf);by_cases hq00:c<32
 ·skip
  have d1:decide ((c:Int)<32)=true:=decide_eq_true (by omega);(conv=>whnf);rw [d1];clear d1;(conv=>whnf);refine VC.fa AC ?_;refine ld1 (v:=.int .i64 ((i:Nat):Int)) ct3 (by rw [(st1.blk k hp).cell];rfl) trivial ?_;refine Ah.mk Dx (fun _ _ h=>h.elim) ?_;rintro _ _ ⟨rfl,rfl⟩;exact⟨i,i,by rw [ho,if_pos (by omega)],rfl,by rw [CE hp];exact st1⟩
 ·skip
  have d1:decide ((c:Int)<32)=false:=decide_eq_false (by omega);(conv=>whnf);rw [d1];clear d1;by_cases hq10:126<c
  ·skip
   have d1:decide ((c:Int)>126)=true:=decide_eq_true (by omega);(conv=>whnf);rw [d1];clear d1;(conv=>whnf);refine VC.fa AC ?_;refine ld1 (v:=.int .i64 ((i:Nat):Int)) ct3 (by rw [(st1.blk k hp).cell];rfl) trivial ?_;refine Ah.mk Dx (fun _ _ h=>h.elim) ?_;rintro _ _ ⟨rfl,rfl⟩;exact⟨i,i,by rw [ho,if_pos (by omega)],rfl,by rw [CE hp];exact st1⟩
  ·skip
   have d1:decide ((c:Int)>126)=false:=decide_eq_false (by omega);(conv=>whnf);rw [d1];clear d1;refine Ah.of (Am (Pl s c H1) fun H2 ha2=>?_);have st2:=st1.call ha2;(conv=>whnf);rw [Y5];cases hsp:spB s c with
   | true=>
     (conv=>whnf);refine VC.fa AC ?_;refine ld1 (v:=.int .i64 ((i:Nat):Int)) ct3 (by rw [(st2.blk k hp).cell];rfl) trivial ?_;refine Ah.mk Dx (fun _ _ h=>h.elim) ?_;rintro _ _ ⟨rfl,rfl⟩;exact⟨i,i,by rw [ho,if_pos (.inr (.inr hsp))],rfl,by rw [CE hp];exact st2⟩
   | false=>
     (conv=>whnf);refine VC.fa AC ?_;refine ld1 (v:=.int .i64 ((i:Nat):Int)) ct3 (by rw [(st2.blk k hp).cell];rfl) trivial ?_;(conv=>whnf);rw [w64 (x:=((i:Nat):Int)+1) (by omega) (by omega)];refine VC.fa AC (AZ st2 k ct3 hp (by simp) rfl fun H4 st4=>?_);(conv=>whnf);exact⟨c,i+1,by rw [ho,if_neg (by rw [hsp];simp;omega)],rfl,st4⟩
def Bj(a:ReM):ReM:=.alt a .eps
def V2(q:Option ReM)(p:ReM):ReM:=match q with
 | none=>p
 | some q=>.cat q p
def BS(a:ReM)(m:Nat):Nat→Option ReM
 | 0=>none
 | k+1=>some (V2 (BS a m k) (if k<m then a else Bj a))
def Ca(a:ReM)(m:Nat)(n:Int):ReM:=
 if n<0 then(if m=0 then .star a else .cat ((BS a m m).getD .eps) (.star a))else if n=0 then .eps else(BS a m n.toNat).getD .eps
structure AF where
 place:Int
 alt:Option ReM
 meet:Option ReM
 sign:Nat
 row:Option ReM
 factor:Option ReM
def Ay(f:AF):AF:=match f.factor with
 | none=>f
 | some p=>{f with row:=some (V2 f.row p),factor:=none}
def Cp(f:AF):AF:=
 let g:=Ay f
 let r:=g.row.getD .eps
 {g with meet:=some (match g.meet with | none=>r | some q=>if g.sign=38 then .and_ q r else .minus q r),row:=none}
def CA(f:AF):AF:=
 let g:=Cp f
 let r:=g.meet.getD .eps
 {g with alt:=some (match g.alt with | none=>r | some q=>.alt q r),meet:=none}
def E1(place:Int):AF:=⟨place,none,none,0,none,none⟩
def DL(t:ByteArray)(i:Nat):Bool:=decide (48≤bt t i∧bt t i≤57)
def BO(t:ByteArray):Nat→Nat→Nat→Nat×Nat
 | 0,i,v=>(v,i)
 | k+1,i,v=>if DL t i then BO t k (i+1) (10*v+(bt t i - 48))else(v,i)
def upM(t:ByteArray)(m i:Nat):Sum (Nat×Nat) (Int×Nat):=
 if bt t i=44 then(if bt t (i+1)=125 then .inr (-1,i+1)else if DL t (i+1)then .inr (((BO t 3 (i+1) 0).1:Int),(BO t 3 (i+1) 0).2)else .inl (20,i+1))else .inr ((m:Int),i)
def Fp(t:ByteArray)(from_ m:Nat)(n:Int)(i:Nat):Sum (Nat×Nat) (Nat×Int×Nat):=
 if bt t i=125 then(if 255<m∨255<n∨(0≤n∧n<(m:Int))then .inl (22,from_)else .inr (m,n,i+1))else .inl (20,i)
def BZ(t:ByteArray)(from_:Nat):Sum (Nat×Nat) (Nat×Int×Nat):=
 if DL t (from_+1)then(match upM t (BO t 3 (from_+1) 0).1 (BO t 3 (from_+1) 0).2 with
  | .inl e=>.inl e
  | .inr (n,i)=>Fp t from_ (BO t 3 (from_+1) 0).1 n i)
 else .inl (20,from_+1)
theorem Gm{t:ByteArray}:∀(k i v:Nat),i≤(BO t k i v).2∧(BO t k i v).2≤i+k∧(i≤t.size→(BO t k i v).2≤t.size)
 | 0,i,v=>⟨AaV _,AaV _,fun h=>h⟩
 | k+1,i,v=>by
   unfold BO;split
   ·rename_i h;obtain⟨h1,h2,h3⟩:=Gm (t:=t) k (i+1) (10*v+(bt t i - 48));unfold DL at h;have h:=of_decide_eq_true h;have hi:i<t.size:=D2 (by omega);exact⟨by omega,by omega,fun _=>h3 (by omega)⟩
   ·exact⟨AaV _,by omega,fun h=>h⟩
theorem LN{t:ByteArray}:∀(k i v:Nat),(BO t k i v).1<(v+1)*10 ^ k
 | 0,i,v=>by unfold BO;simp
 | k+1,i,v=>by
   unfold BO;split
   ·rename_i h;unfold DL at h;have h:=of_decide_eq_true h;have h1:=LN (t:=t) k (i+1) (10*v+(bt t i - 48));refine Nat.lt_of_lt_of_le h1 ?_;rw [Nat.pow_succ,Nat.mul_comm (10 ^ k) 10,←Nat.mul_assoc];exact Nat.mul_le_mul_right _ (by omega)
   ·show v<(v+1)*10 ^ (k+1);have:1≤10 ^ (k+1):=Nat.one_le_pow _ _ (by omega);have:=Nat.mul_le_mul (AaV (v+1)) this;omega
theorem IX{t:ByteArray}{p m j:Nat}{n:Int}(h:BZ t p= .inr (m,n,j)):p<j∧j≤t.size∧m≤255∧n≤255∧(0≤n→(m:Int)≤n)∧ -1≤n:=by
 unfold BZ at h;split at h
 ·obtain⟨a1,a2,-⟩:=Gm (t:=t) 3 (p+1) 0;generalize BO t 3 (p+1) 0=q at h a1 a2;split at h
  ·cases h
  ·rename_i n2 i2 hu;have hi2:q.2≤i2∧ -1≤n2:=by
    unfold upM at hu;split at hu
    ·split at hu
     ·cases hu;exact⟨by omega,by omega⟩
     ·split at hu
      ·obtain⟨b1,b2,-⟩:=Gm (t:=t) 3 (q.2+1) 0;cases hu;exact⟨by omega,by omega⟩
      ·cases hu
    ·cases hu;exact⟨AaV _,by omega⟩
   unfold Fp at h;split at h
   ·rename_i h125;split at h
    ·cases h
    ·rename_i hc;cases h;have:i2<t.size:=D2 (by omega);refine⟨by omega,by omega,?_,?_,?_,hi2.2⟩<;>omega
   ·cases h
 ·cases h
def Fy(c:Nat):Bool:=c==42|| c==43|| c==63|| c==123
def ED(t:ByteArray)(i:Nat):Sum (Nat×Nat) (Nat×Int×Nat):=
 if bt t i=42 then .inr (0,-1,i+1)else if bt t i=43 then .inr (1,-1,i+1)else if bt t i=63 then .inr (0,1,i+1)else BZ t i
structure RdS where
 i:Nat
 f:AF
 fs:List AF
def Ci(t:ByteArray)(s:RdS):Sum (Nat×Nat) RdS:=
 if Fy (bt t s.i)then(match s.f.factor with
  | none=>.inl (20,s.i)
  | some a=>match ED t s.i with
    | .inl e=>.inl e
    | .inr (m,n,k)=>.inr ⟨k,{s.f with factor:=some (Ca a m n)},s.fs⟩)
 else if bt t s.i=124 then .inr ⟨s.i+1,CA s.f,s.fs⟩
 else if bt t s.i=38∨bt t s.i=45 then .inr ⟨s.i+1,{Cp s.f with sign:=bt t s.i},s.fs⟩
 else if bt t s.i=41 then(match s.fs with
  | []=>.inl (20,s.i)
  | g::r=>.inr ⟨s.i+1,{g with factor:=(CA s.f).alt},r⟩)
 else if bt t s.i=40 then(if 1000≤s.fs.length then .inl (23,s.i)else .inr ⟨s.i+1,E1 s.i,Ay s.f::s.fs⟩)
 else match BE t s.i with
  | .inl e=>.inl (10,e)
  | .inr (x,k)=>.inr ⟨k,{Ay s.f with factor:=some (.cls x)},s.fs⟩
theorem QQ{t:ByteArray}{s s':RdS}(h:Ci t s= .inr s')(hi:s.i<t.size):s.i<s'.i∧s'.i≤t.size:=by
 unfold Ci at h;split at h
 ·rename_i hp;split at h
  ·cases h
  ·split at h
   ·cases h
   ·rename_i m n k hpm;cases h;unfold ED at hpm;split at hpm
    ·cases hpm;exact⟨AbK _,hi⟩
    ·split at hpm
     ·cases hpm;exact⟨AbK _,hi⟩
     ·split at hpm
      ·cases hpm;exact⟨AbK _,hi⟩
      ·have:=IX hpm;exact⟨this.1,this.2.1⟩
 ·split at h
  ·cases h;exact⟨AbK _,hi⟩
  ·split at h
   ·cases h;exact⟨AbK _,hi⟩
   ·split at h
    ·split at h
     ·cases h
     ·cases h;exact⟨AbK _,hi⟩
    ·split at h
     ·split at h
      ·cases h
      ·cases h;exact⟨AbK _,hi⟩
     ·split at h
      ·cases h
      ·rename_i x k hr;cases h;exact Ju hr
def U3(s:RdS):Sum (Nat×Int) ReM:=match s.fs with
 | []=>let r:=(CA s.f).alt.getD .eps;if 2000<r.nodes then .inl (24,0)else .inr r
 | _::_=>.inl (21,s.f.place)
def Wb(e:Nat×Nat):Nat×Int:=(e.1,(e.2:Int))
def GT(t:ByteArray):Nat→RdS→Sum (Nat×Int) ReM
 | 0,s=>U3 s
 | n+1,s=>if s.i<t.size then(match Ci t s with
   | .inl e=>.inl (Wb e)
   | .inr s'=>GT t n s')else U3 s
def BY(t:ByteArray)(s:RdS):Sum (Nat×Int) ReM:=GT t (t.size - s.i) s
theorem F9{t:ByteArray}:∀(n m:Nat) (s:RdS),t.size - s.i≤n→t.size - s.i≤m→GT t n s=GT t m s
 | 0,0,s,_,_=>rfl
 | 0,m+1,s,h,_=>by unfold GT;rw [if_neg (by omega)]
 | n+1,0,s,_,h=>by unfold GT;rw [if_neg (by omega)]
 | n+1,m+1,s,h1,h2=>by
   unfold GT;by_cases hi:s.i<t.size
   ·rw [if_pos hi,if_pos hi];cases hs:Ci t s with
    | inl e=>rfl
    | inr s'=>
      have:=QQ hs hi;exact F9 n m s' (by omega) (by omega)
   ·rw [if_neg hi,if_neg hi]
theorem Ej{t:ByteArray}{s s':RdS}(hi:s.i<t.size)(h:Ci t s= .inr s'):BY t s=BY t s':=by
 have hk:=QQ h hi;have e:BY t s=GT t (t.size - s.i - 1+1) s:=F9 _ _ _ (AaV _) (by omega);rw [e,GT,if_pos hi,h];exact F9 _ _ _ (by omega) (AaV _)
theorem E3{t:ByteArray}{s:RdS}{e:Nat×Nat}(hi:s.i<t.size)(h:Ci t s= .inl e):BY t s= .inl (Wb e):=by
 have e1:BY t s=GT t (t.size - s.i - 1+1) s:=F9 _ _ _ (AaV _) (by omega);rw [e1,GT,if_pos hi,h]
theorem MP{t:ByteArray}{s:RdS}(hi:¬s.i<t.size):BY t s=U3 s:=by
 unfold BY;rw [show t.size - s.i=0 by omega];rfl
def CV(t:ByteArray):Sum (Nat×Int) ReM:=if 1048576<t.size then .inl (1,0)else BY t ⟨0,E1 (-1),[]⟩
inductive RwM
 | eps
 | cls (s:BitVec 256)
 | cat (a b:RwM)
 | alt (a b:RwM)
 | and_ (a b:RwM)
 | minus (a b:RwM)
 | rep (a:RwM) (m n:Int)
def AL(m:Int):Nat:=if m= -2 then 1 else m.toNat
def RwM.den:RwM→ReM
 | .eps=>.eps
 | .cls s=>.cls s
 | .cat a b=>.cat a.den b.den
 | .alt a b=>.alt a.den b.den
 | .and_ a b=>.and_ a.den b.den
 | .minus a b=>.minus a.den b.den
 | .rep a m n=>Ca a.den (AL m) n
def A7(op x y:Int):RnM:=⟨op,0#256,x,y,0,0⟩
def DB(s:BitVec 256):RnM:=⟨1,s,0,0,0,0⟩
def BQ(x m n:Int):RnM:=⟨7,0#256,x,0,m,n⟩
def SI(m n:Int):Prop:=(m= -2∧n= -1)∨(0≤m∧m≤255∧ -1≤n∧n≤255∧(0≤n→m≤n))
def LX(ws:List RwM)(d:RnM):RwM→Prop
 | .eps=>d=A7 0 0 0
 | .cls s=>d=DB s
 | .cat a b=>∃j k:Nat,d=A7 2 j k∧ws[j]? =some a∧ws[k]? =some b
 | .alt a b=>∃j k:Nat,d=A7 3 j k∧ws[j]? =some a∧ws[k]? =some b
 | .and_ a b=>∃j k:Nat,d=A7 5 j k∧ws[j]? =some a∧ws[k]? =some b
 | .minus a b=>∃j k:Nat,d=A7 6 j k∧ws[j]? =some a∧ws[k]? =some b
 | .rep a m n=>∃j:Nat,d=BQ j m n∧ws[j]? =some a∧SI m n
inductive Raw:List RnM→List RwM→Prop
 | nil:Raw [] []
 | add {ds:List RnM} {ws:List RwM} {d:RnM} {w:RwM}:Raw ds ws→LX ws d w→Raw (ds++[d]) (ws++[w])
theorem Raw.len{ds:List RnM}{ws:List RwM}(h:Raw ds ws):ds.length=ws.length:=by
 induction h with
 | nil=>rfl
 | add _ _ ih=>simp [ih]
theorem LX.more{ws us:List RwM}{d:RnM}:∀{w:RwM},LX ws d w→LX (ws++us) d w
 | .eps,h=>h
 | .cls s,h=>h
 | .cat a b,⟨j,k,h1,h2,h3⟩=>⟨j,k,h1,GP h2,GP h3⟩
 | .alt a b,⟨j,k,h1,h2,h3⟩=>⟨j,k,h1,GP h2,GP h3⟩
 | .and_ a b,⟨j,k,h1,h2,h3⟩=>⟨j,k,h1,GP h2,GP h3⟩
 | .minus a b,⟨j,k,h1,h2,h3⟩=>⟨j,k,h1,GP h2,GP h3⟩
 | .rep a m n,⟨j,h1,h2,h3⟩=>⟨j,h1,GP h2,h3⟩
theorem VU{α:Type}{l:List α}{x y:α}{i:Nat}(h:(l++[x])[i]? =some y):l[i]? =some y∨(i=l.length∧y=x):=by
 by_cases hi:i<l.length
 ·rw [AbD hi]at h;exact .inl h
 ·rw [AaT (by omega)]at h;have:i - l.length=0:=by
   have:=(AaS.1 h).1;simp at this;omega
  rw [this]at h;exact .inr ⟨by omega,by simpa using h.symm⟩
theorem Raw.at_{ds:List RnM}{ws:List RwM}(h:Raw ds ws):∀{i:Nat} {w:RwM},ws[i]? =some w→∃d us vs,ds[i]? =some d∧ws=us++vs∧us.length=i∧LX us d w:=by
 induction h with
 | nil=>intro i w hw;cases hw
 | @add ds ws d w h1 h2 ih=>
   intro i w' hw;rcases VU hw with hw | ⟨rfl,rfl⟩
   ·obtain⟨d',us,vs,h3,rfl,h4,h5⟩:=ih hw;exact⟨d',us,vs++[w],GP h3,by simp,h4,h5⟩
   ·refine⟨d,ws,[w'],?_,rfl,rfl,h2⟩;rw [←h1.len];simp
theorem Raw.at2{ds:List RnM}{ws:List RwM}(h:Raw ds ws){i:Nat}{w:RwM}(hw:ws[i]? =some w):∃d,ds[i]? =some d∧LX ws d w:=by
 obtain⟨d,us,vs,h1,rfl,-,h3⟩:=h.at_ hw;exact⟨d,h1,h3.more⟩
structure FrD where
 place:Int
 alt:Int
 meet:Int
 sign:Nat
 row:Int
 factor:Int
def frL(f:FrD):List Value:=[.int .i64 f.place,.int .i64 f.alt,.int .i64 f.meet,.int .u8 (f.sign:Int),.int .i64 f.row,.int .i64 f.factor]
def tFr:Ty FrD where
 size:=6
 rep _ _ cs d:=cs=frL d
 len h:=by rw [h];rfl
 frame h _:=h
 mono h _:=h
theorem Tp(d:FrD):(frL d).all (·.oneCell')=true:=rfl
def IxR(ws:List RwM)(x:Int):Option ReM→Prop
 | none=>x= -1
 | some r=>∃(j:Nat) (w:RwM),x=(j:Int)∧ws[j]? =some w∧w.den=r
structure FrR(ws:List RwM)(f:FrD)(a:AF):Prop where
 place:f.place=a.place
 alt:IxR ws f.alt a.alt
 meet:IxR ws f.meet a.meet
 sign:f.sign=a.sign
 row:IxR ws f.row a.row
 factor:IxR ws f.factor a.factor
theorem IxR.more{ws us:List RwM}{x:Int}:∀{o:Option ReM},IxR ws x o→IxR (ws++us) x o
 | none,h=>h
 | some r,⟨j,w,h1,h2,h3⟩=>⟨j,w,h1,GP h2,h3⟩
theorem FrR.more{ws us:List RwM}{f:FrD}{a:AF}(h:FrR ws f a):FrR (ws++us) f a:=⟨h.place,h.alt.more,h.meet.more,h.sign,h.row.more,h.factor.more⟩
theorem IxR.neg{ws:List RwM}{x:Int}{o:Option ReM}(h:IxR ws x o):x<0↔o=none:=by
 cases o with
 | none=>exact⟨fun _=>rfl,fun _=>by rw [show x= -1 from h];decide⟩
 | some r=>
   obtain⟨j,w,rfl,-⟩:=h;exact⟨fun h=>absurd h (by omega),fun h=>by cases h⟩
theorem IxR.new{ds:List RnM}{ws:List RwM}{w:RwM}{r:ReM}(h:Raw ds ws)(hr:w.den=r):IxR (ws++[w]) (ds.length:Int) (some r):=⟨ds.length,w,rfl,by rw [h.len];simp,hr⟩
def Bi(ds:List RnM)(f:FrD):List RnM×FrD:=
 if f.factor<0 then(ds,f)else if f.row<0 then(ds,{f with row:=f.factor,factor:= -1})else(ds++[A7 2 f.row f.factor],{f with row:=ds.length,factor:= -1})
def CG(ds:List RnM)(f:FrD):List RnM×FrD:=if f.row<0 then(ds++[A7 0 0 0],{f with row:=ds.length})else(ds,f)
def EC(ds:List RnM)(f:FrD):List RnM×FrD:=
 if f.meet<0 then(ds,{f with meet:=f.row,row:= -1})else(ds++[A7 (if f.sign=38 then 5 else 6) f.meet f.row],{f with meet:=ds.length,row:= -1})
def CJ(ds:List RnM)(f:FrD):List RnM×FrD:=EC (CG (Bi ds f).1 (Bi ds f).2).1 (CG (Bi ds f).1 (Bi ds f).2).2
def PX(ds:List RnM)(f:FrD):List RnM×FrD:=
 if f.alt<0 then(ds,{f with alt:=f.meet,meet:= -1})else(ds++[A7 3 f.alt f.meet],{f with alt:=ds.length,meet:= -1})
def Ec(ds:List RnM)(f:FrD):List RnM×FrD:=PX (CJ ds f).1 (CJ ds f).2
theorem Gp(ds:List RnM)(f:FrD):(Bi ds f).1.length≤ds.length+1:=by
 unfold Bi;split;· simp
 split<;>simp
theorem My(ds:List RnM)(f:FrD):(CG ds f).1.length≤ds.length+1:=by unfold CG;split<;>simp
theorem Uu(ds:List RnM)(f:FrD):(EC ds f).1.length≤ds.length+1:=by unfold EC;split<;>simp
theorem Vo(ds:List RnM)(f:FrD):(PX ds f).1.length≤ds.length+1:=by unfold PX;split<;>simp
theorem I7(ds:List RnM)(f:FrD):(CJ ds f).1.length≤ds.length+3:=by
 unfold CJ;have h1:=Gp ds f;have h2:=My (Bi ds f).1 (Bi ds f).2;have h3:=Uu (CG (Bi ds f).1 (Bi ds f).2).1 (CG (Bi ds f).1 (Bi ds f).2).2;omega
theorem Ja(ds:List RnM)(f:FrD):(Ec ds f).1.length≤ds.length+4:=by
 unfold Ec;have h1:=I7 ds f;have h2:=Vo (CJ ds f).1 (CJ ds f).2;omega
structure OA(ws:List RwM)(q:List RnM×FrD)(a:AF):Prop where
 ex:∃us,Raw q.1 (ws++us)∧FrR (ws++us) q.2 a
theorem OA.then_{ws:List RwM}{q q':List RnM×FrD}{a a':AF}(h:OA ws q a)(k:∀ws',Raw q.1 ws'→FrR ws' q.2 a→OA ws' q' a'):OA ws q' a':=by
 obtain⟨us,h1,h2⟩:=h;obtain⟨vs,h3,h4⟩:=k _ h1 h2;rw [AcY]at h3 h4;exact⟨_,h3,h4⟩
theorem Ll{ds:List RnM}{ws:List RwM}{f:FrD}{a:AF}(h:Raw ds ws)(g:FrR ws f a):OA ws (Bi ds f) (Ay a):=by
 unfold Bi Ay;cases hf:a.factor with
 | none=>
   rw [if_pos (g.factor.neg.2 hf)];exact⟨[],by simpa using h,by simpa using g⟩
 | some p=>
   rw [if_neg (fun e=>by have:=g.factor.neg.1 e;rw [hf]at this;cases this)];have gf:=g.factor;rw [hf]at gf;cases hr:a.row with
   | none=>
     rw [if_pos (g.row.neg.2 hr)];exact⟨[],by simpa using h,by simpa using⟨g.place,g.alt,g.meet,g.sign,gf,rfl⟩⟩
   | some q=>
     rw [if_neg (fun e=>by have:=g.row.neg.1 e;rw [hr]at this;cases this)];have gr:=g.row;rw [hr]at gr;obtain⟨j,w,e1,e2,e3⟩:=gr;obtain⟨k,v,e4,e5,e6⟩:=gf;refine⟨[.cat w v],h.add ⟨j,k,by rw [e1,e4],e2,e5⟩,⟨g.place,g.alt.more,g.meet.more,g.sign,?_,rfl⟩⟩;exact IxR.new h (by rw [←e3,←e6];rfl)
theorem Kz{ds:List RnM}{ws:List RwM}{f:FrD}{a:AF}(h:Raw ds ws)(g:FrR ws f a):OA ws (CJ ds f) (Cp a):=by
 refine(Ll h g).then_ fun ws1 h1 g1=>?_;unfold CJ;generalize Bi ds f=q1 at*;obtain⟨ds1,f1⟩:=q1;have he:OA ws1 (CG ds1 f1) {Ay a with row:=some ((Ay a).row.getD .eps)}:=by
  unfold CG;cases hr:(Ay a).row with
  | none=>
    rw [if_pos (g1.row.neg.2 hr)];exact⟨[.eps],h1.add rfl,⟨g1.place,g1.alt.more,g1.meet.more,g1.sign,IxR.new h1 rfl,g1.factor.more⟩⟩
  | some q=>
    rw [if_neg (fun e=>by have:=g1.row.neg.1 e;rw [hr]at this;cases this)];have gr:=g1.row;rw [hr]at gr;exact⟨[],by simpa using h1,by simpa using⟨g1.place,g1.alt,g1.meet,g1.sign,gr,g1.factor⟩⟩
 refine he.then_ fun ws2 h2 g2=>?_;generalize CG ds1 f1=q2 at*;obtain⟨ds2,f2⟩:=q2;obtain⟨j,w,e1,e2,e3⟩:=g2.row;unfold EC;cases hm:(Ay a).meet with
 | none=>
   rw [if_pos (g2.meet.neg.2 hm)];refine⟨[],by simpa using h2,?_⟩;rw [Ad4];refine⟨g2.place,g2.alt,?_,g2.sign,rfl,g2.factor⟩;show IxR ws2 f2.row (some (match(Ay a).meet with | none=>_ | some q=>_));rw [hm];exact⟨j,w,e1,e2,e3⟩
 | some q=>
   rw [if_neg (fun e=>by have:=g2.meet.neg.1 e;rw [show({Ay a with row:=some ((Ay a).row.getD .eps)}:AF).meet=(Ay a).meet from rfl,hm]at this;cases this)];have gm:=g2.meet;rw [show({Ay a with row:=some ((Ay a).row.getD .eps)}:AF).meet=(Ay a).meet from rfl,hm]at gm;obtain⟨k,v,e4,e5,e6⟩:=gm;have hs:f2.sign=(Ay a).sign:=g2.sign;have fin:∀(x:RwM) (op:Int),LX ws2 (A7 op f2.meet f2.row) x→some x.den=(Cp a).meet→OA ws2 (ds2++[A7 op f2.meet f2.row],{f2 with meet:=(ds2.length:Int),row:= -1}) (Cp a):=fun x op hx hxd=>
    ⟨[x],h2.add hx,⟨g2.place,g2.alt.more,by show IxR _ _ (Cp a).meet;rw [←hxd];exact IxR.new h2 rfl,g2.sign,rfl,g2.factor.more⟩⟩
   by_cases h38:f2.sign=38
   ·rw [if_pos h38];refine fin (.and_ v w) 5 ⟨k,j,by rw [e1,e4],e5,e2⟩ ?_;show some (ReM.and_ v.den w.den)=some (match(Ay a).meet with | none=>_ | some q=>_);rw [hm];show _=some (if(Ay a).sign=38 then _ else _);rw [if_pos (by rw [←hs];exact h38),e3,e6]
   ·rw [if_neg h38];refine fin (.minus v w) 6 ⟨k,j,by rw [e1,e4],e5,e2⟩ ?_;show some (ReM.minus v.den w.den)=some (match(Ay a).meet with | none=>_ | some q=>_);rw [hm];show _=some (if(Ay a).sign=38 then _ else _);rw [if_neg (by rw [←hs];exact h38),e3,e6]
theorem Jb{ds:List RnM}{ws:List RwM}{f:FrD}{a:AF}(h:Raw ds ws)(g:FrR ws f a):OA ws (Ec ds f) (CA a):=by
 refine(Kz h g).then_ fun ws2 h2 g2=>?_;unfold Ec;generalize CJ ds f=q2 at*;obtain⟨ds2,f2⟩:=q2;have gm:=g2.meet;have hfm:(Cp a).meet=some ((Cp a).meet.getD .eps):=rfl;rw [hfm]at gm;obtain⟨j,w,e1,e2,e3⟩:=gm;unfold PX;cases hm:(Cp a).alt with
 | none=>
   rw [if_pos (g2.alt.neg.2 hm)];refine⟨[],by simpa using h2,?_⟩;rw [Ad4];refine⟨g2.place,?_,rfl,g2.sign,g2.row,g2.factor⟩;show IxR ws2 f2.meet (some (match(Cp a).alt with | none=>_ | some q=>_));rw [hm];exact⟨j,w,e1,e2,e3⟩
 | some q=>
   rw [if_neg (fun e=>by have:=g2.alt.neg.1 e;rw [hm]at this;cases this)];have ga:=g2.alt;rw [hm]at ga;obtain⟨k,v,e4,e5,e6⟩:=ga;refine⟨[.alt v w],h2.add ⟨k,j,by rw [e1,e4],e5,e2⟩,⟨g2.place,?_,rfl,g2.sign,g2.row.more,g2.factor.more⟩⟩;show IxR _ _ (some (match(Cp a).alt with | none=>_ | some q=>_));rw [hm];exact IxR.new h2 (by show ReM.alt v.den w.den=_;rw [e3,e6])
end Go.Proofs.YtfbghcpdinlmcaaGreatDoor
namespace Go.Proofs.YtfbghcpdinlmcaaGreatDoor
open Go.VC
section
variable{B:Nat→Prop}{H0 H:Aa}{rest:List Pc}{bb n:Nat}{v:Value}
end
abbrev tRe:TypeId:=56
section
variable{B:Nat→Prop}{H0 H:Aa}{rest:List Pc}{bb:Nat}
end
theorem Jt:(Tryz.prog.info? 56).bind (·.zero)=some (.agg #[.slice none 0 0,.int .i64 0]):=rfl
abbrev reZ:List Value:=[.slice none 0 0,.int .i64 0]
end Go.Proofs.YtfbghcpdinlmcaaGreatDoor
namespace Go.VC
section
variable{α:Type}{T:Ty α}{B:Nat→Prop}{H0 H:Aa}{ps:List Pc}{e:TypeId}{b n cap:Nat}{xs:List α}
theorem StB.cellsE{j:Nat}{x:α}(st:StB B H0 H ps)(i:Nat)(hp:ps[i]? =some (pS T e (some ⟨b,0,none⟩) n cap xs))(hx:xs[j]? =some x):∃c,AX H b (j*T.size) c∧T.rep none_ H c x:=by
 have hi:=(AaS.1 hx).1;obtain⟨-,-,-,l,-,-,h,-⟩:=(st.at_ i hp).1.placeS hi;exact h x hx
theorem StB.ltE(st:StB B H0 H ps)(i:Nat)(hp:ps[i]? =some (pS T e (some ⟨b,0,none⟩) n cap xs)):b<H.size:=(st.in_ i hp (.inl ⟨0,n,cap,rfl⟩)).2
theorem ixE{P:Program}{t by_ j:Nat}{z:Value}{k:IntKind}{ji:Int}{S0:Nat→Prop}{H2:Aa}{K:Value→Prop}(ht:SlT P t e T.size by_ z)(st:StB B H0 H ps)(i:Nat)(hp:ps[i]? =some (pS T e (some ⟨b,0,none⟩) n cap xs))
  (hj:j<xs.length) (hji:ji=(j:Int)) (hk:K (.pointer (some ⟨b,j*T.size,none⟩))):AJ P (Instr.indexAt t (.slice (some ⟨b,0,none⟩) n cap) (.int k ji)) S0 H2 K:=by
 have hn:=st.len i hp;exact ix ht (by omega) (by omega) (by rw [hji,AcZ,AcX];exact hk)
theorem st1E{P:Program}{t j k:Nat}{v:Value}{x x':α}{K:Aa→Prop}(st:StB B H0 H ps)(i:Nat)(ht:Cb P t)(hp:ps[i]? =some (pS T e (some ⟨b,0,none⟩) n cap xs))(hx:xs[j]? =some x)(hk:k<T.size)(hv:v.oneCell'=true)
  (hr:∀H' c,T.rep none_ H' c x→T.rep none_ H' (c.set k v) x') (kk:∀H',StB B H0 H' (ps.set i (pS T e (some ⟨b,0,none⟩) n cap (xs.set j x')))→Agr (fun q=>q≠b) H H'→K H'):
  CY P (Instr.storeAt t (.pointer (some ⟨b,j*T.size+k,none⟩)) v) H K:=by
 have hj:=(AaS.1 hx).1;have hok:=st.at_ i hp;obtain⟨-,-,-,l,hblk,hlen,hc,hput⟩:=hok.1.placeS hj;obtain⟨c,hc,hrep⟩:=hc x hx;have hcl:=T.len hrep;refine VC.st1 ht hblk (by omega) hv ?_;intro H' hb' ha' hs';have hSH:Agr none_ H H':=fun q hq=>hq.elim;have hrep':=hr H' c (T.frame hrep hSH);have hown:=hput H' (c.set k v) x' (by
  have:Ai l (j*T.size) (c.set k v)=l.set (j*T.size+k) v:=by
   apply AcF;intro m;rw [Dh (by rw [Ad5,hcl];exact hlen),Ad5,hcl];by_cases hm:j*T.size≤m∧m<j*T.size+T.size
   ·rw [if_pos hm];have hcm:m - j*T.size<c.length:=by omega
    have hce:(c[m - j*T.size]?)=l[m]? :=by
     have h1:=hc (m - j*T.size) _ (AcQ hcm);rw [show j*T.size+(m - j*T.size)=m by omega,hblk.cell]at h1;rw [AcQ hcm,h1]
    by_cases hmk:m=j*T.size+k
    ·subst hmk;rw [show j*T.size+k - j*T.size=k by omega,AbM (by omega),AbM (by omega)]
    ·rw [Ab8 (by omega),Ab8 (by omega),hce]
   ·rw [if_neg hm,Ab8 (by omega)]
  rw [this];exact hb') hSH hrep'
 exact kk H' (st.upd i hp (ha'.mono fun q hq hkb=>hq.2 (.inl (by subst hkb;exact⟨0,n,cap,rfl⟩))) _ ⟨hown,hok.2⟩ (fun q hq=>.inl hq) (fun q hq=>by rw [hs'];exact(st.in_ i hp hq).2) (by omega)) ha'
end
end Go.VC
namespace Go.Proofs.YtfbghcpdinlmcaaGreatDoor
open Go.VC Go.Lib
abbrev tSt:TypeId:=148
abbrev stP(sb fb:Nat)(na:Option Addr)(nc fc n:Nat)(ds:List RnM)(frs:List FrD)(rest:List Pc):List Pc:=
 pB tSt sb [.slice na ds.length nc,.slice (some ⟨fb,0,none⟩) n fc]::pS tRn 159 na ds.length nc ds::pS tFr 150 (some ⟨fb,0,none⟩) n fc frs::rest
structure Dst(B:Nat→Prop)(H0 H:Aa)(sb fb:Nat)(ds:List RnM)(frs:List FrD)(rest:List Pc):Prop where
 ex:∃na nc fc n,StB B H0 H (stP sb fb na nc fc n ds frs rest)
def AH(x:Int):Prop:= -4294967296<x∧x<4294967296
theorem BJ{x:Int}(h:AH x):inK .i64 x:=by
 unfold AH at h;unfold inK;show(-9223372036854775808:Int)≤x∧x≤9223372036854775807;omega
theorem Vu{op x y:Int}(h1:AH op)(h2:AH x)(h3:AH y):(A7 op x y).Ok:=⟨BJ h1,BJ h2,BJ h3,BJ (x:=0) (by unfold AH;omega),BJ (x:=0) (by unfold AH;omega)⟩
section
variable{B:Nat→Prop}{H0 H:Aa}{sb fb nc fc n:Nat}{na:Option Addr}{ds:List RnM}{frs:List FrD}{rest:List Pc}
theorem Je{op x y:Int}(st:StB B H0 H (stP sb fb na nc fc n ds frs rest))(h1:AH op)(h2:AH x)(h3:AH y)(hl:ds.length≤16777216):
  Al Tryz.prog 133 #[.pointer (some ⟨sb,0,none⟩),.int .i64 op,.int .i64 x,.int .i64 y] H
   (fun v H'=>v= .int .i64 (ds.length:Int)∧Agr (fun k=>k=fb) H H'∧∃na' nc',StB B H0 H' (stP sb fb na' nc' fc n (ds++[A7 op x y]) frs rest)):=by
 have f1:fb≠sb:=fun e=>st.apart2 (i:=0) (j:=2) rfl rfl (by decide) sb rfl (.inl ⟨0,n,fc,by rw [e]⟩);have f2:¬slB (.slice na ds.length nc) fb:=fun e=>st.apart2 (i:=1) (j:=2) rfl rfl (by decide) fb (.inl e) (.inl ⟨0,n,fc,rfl⟩);have f3:fb<H.size:=st.ltE 2 rfl;refine Al.of_vc Tryz.func133 rfl (Tryz.call133 _) (VC.fa Cl ?_);refine ld1 (v:=.slice na ds.length nc) Ev (by rw [(st.blk 0 rfl).cell];rfl) trivial ?_;refine Om op x y (AG Fm (rnL (A7 op x y)) rfl (AQ _) (by decide) (by decide) ?_);intro z H1 hz hs1 hb1 ha1;have st1:=st.skip hz ha1;refine Ku (ys:=[A7 op x y]) st1 1 Fm rfl (hb1.cells (o:=0) (cs:=rnL (A7 op x y)) fun j v hv=>by rw [AcX];exact hv) (Ty.reps_one ⟨rfl,Vu h1 h2 h3⟩) rfl (fun u hu=>AcK.1 (CQ _) u hu) (by simp [maxLen];omega) (by simp;omega) fun a9 c9 H9 st9 ha9=>?_;have el:ds.length+[A7 op x y].length=(ds++[A7 op x y]).length:=by simp
 rw [el]at st9 ⊢;refine VC.fa Cl (TG st9 0 Ev rfl (show 0<2 by decide) rfl fun H10 st10 ja js=>(VC.fa Cl ?_));refine ld1 (v:=.slice a9 (ds++[A7 op x y]).length c9) Ev (by rw [(st10.blk 0 rfl).cell];rfl) trivial ?_;have w1:IntKind.wrap .i64 (((ds++[A7 op x y]).length:Int) - 1)=(ds.length:Int):=by
  rw [Ac8,AbY,w64 (by omega) (by omega)];omega
 (conv=>whnf);rw [w1];(conv=>whnf);refine⟨rfl,?_,a9,c9,st10⟩;rintro k rfl;rw [ja _ f1,ha9 _ ⟨by have:z=H.size:=hz;omega,f2⟩,ha1 _ (by have:z=H.size:=hz;omega)]
theorem Bm{fr:List FrD}{f:FrD}{k:Nat}{v:Value}(st:StB B H0 H (stP sb fb na nc fc n ds (fr++[f]) rest))(hk:(frL f)[k]? =some v):cell H fb (fr.length*tFr.size+k)=some v:=by
 obtain⟨c,hc,rfl⟩:=st.cellsE 2 rfl (x:=f) (j:=fr.length) (by simp);exact hc k v hk
theorem Tn{fr:List FrD}{f:FrD}(st:StB B H0 H (stP sb fb na nc fc n ds (fr++[f]) rest)):n=fr.length+1:=by
 have:=st.len 2 rfl;rw [this];simp
theorem E7{t k:Nat}{v:Value}{fr:List FrD}{f f':FrD}{K:Aa→Prop}(st:StB B H0 H (stP sb fb na nc fc n ds (fr++[f]) rest))(ht:Cb Tryz.prog t)(hk:k<6)(hv:v.oneCell'=true)(hr:(frL f).set k v=frL f')
  (kk:∀H',StB B H0 H' (stP sb fb na nc fc n ds (fr++[f']) rest)→Agr (fun q=>q≠fb) H H'→K H'):CY Tryz.prog (Instr.storeAt t (.pointer (some ⟨fb,fr.length*tFr.size+k,none⟩)) v) H K:=by
 refine st1E (T:=tFr) (x:=f) (x':=f') st 2 ht rfl (by simp) hk hv (fun H' c hc=>by rw [show c=frL f from hc];exact hr) fun H' st' ha=>?_;rw [show(fr++[f]).set fr.length f'=fr++[f']from by simp]at st';exact kk H' st' ha
structure FrN(f:FrD):Prop where
 alt:AH f.alt
 meet:AH f.meet
 row:AH f.row
 factor:AH f.factor
theorem MH:AH (-1):=by unfold AH;omega
theorem Ka{m:Nat}(h:m≤16777216):AH (m:Int):=by unfold AH;omega
theorem Im{ds:List RnM}{f:FrD}(h:FrN f)(hl:ds.length≤16777216):FrN (Bi ds f).2:=by
 unfold Bi;split
 ·exact h
 ·split
  ·exact⟨h.alt,h.meet,h.factor,MH⟩
  ·exact⟨h.alt,h.meet,Ka hl,MH⟩
theorem RM{ds:List RnM}{f:FrD}(h:FrN f)(hl:ds.length≤16777216):FrN (CG ds f).2:=by
 unfold CG;split
 ·exact⟨h.alt,h.meet,Ka hl,h.factor⟩
 ·exact h
theorem Uv{ds:List RnM}{f:FrD}(h:FrN f)(hl:ds.length≤16777216):FrN (EC ds f).2:=by
 unfold EC;split
 ·exact⟨h.alt,h.row,MH,h.factor⟩
 ·exact⟨h.alt,Ka hl,MH,h.factor⟩
theorem Um{ds:List RnM}{f:FrD}(h:FrN f)(hl:ds.length≤16777200):FrN (CJ ds f).2:=by
 unfold CJ;have h1:=Gp ds f;have h2:=My (Bi ds f).1 (Bi ds f).2;exact Uv (RM (Im h (by omega)) (by omega)) (by omega)
theorem NH{fr:List FrD}{f:FrD}(st:StB B H0 H (stP sb fb na nc fc n ds (fr++[f]) rest))(hn:FrN f)(hl:ds.length≤16777216):
  Al Tryz.prog 80 #[.pointer (some ⟨sb,0,none⟩)] H (fun _ H'=>∃na' nc',StB B H0 H' (stP sb fb na' nc' fc n (Bi ds f).1 (fr++[(Bi ds f).2]) rest)):=by
 have hlen:=Tn st;have hmx:=st.max 2 rfl;simp only [Ac8,AbY,maxLen]at hmx;refine Al.of_vc Tryz.func80 rfl (Tryz.call80 _) (Ar.lex rfl (by kernel_rfl) (VC.fa Bq ?_));refine ld1 (v:=.slice (some ⟨fb,0,none⟩) n fc) Cz (by rw [(st.blk 0 rfl).cell];rfl) trivial ?_;refine VC.fa Bq ?_;refine ld1 (v:=.slice (some ⟨fb,0,none⟩) n fc) Cz (by rw [(st.blk 0 rfl).cell];rfl) trivial ?_;(conv=>whnf);rw [w64 (x:=(n:Int) - 1) (by omega) (by omega)];refine ixE (j:=fr.length) F0 st 2 rfl (by simp) (by omega) (VC.fa CO (ld1 (v:=.int .i64 f.factor) ct3 (Bm st (k:=5) rfl) trivial ?_));by_cases h1:f.factor<0
 ·have d1:decide (f.factor<0)=true:=decide_eq_true h1;have e:Bi ds f=(ds,f):=by unfold Bi;rw [if_pos h1]
  (conv=>whnf);rw [d1];(conv=>whnf);rw [e];exact⟨na,nc,st⟩
 ·have d1:decide (f.factor<0)=false:=decide_eq_false h1;(conv=>whnf);rw [d1];(conv=>whnf);try (refine Av.run ?_)
  refine VC.fa C8 (ld1 (v:=.int .i64 f.row) ct3 (Bm st (k:=4) rfl) trivial ?_);by_cases h2:f.row<0
  ·have d2:decide (f.row<0)=true:=decide_eq_true h2;have e:Bi ds f=(ds,{f with row:=f.factor,factor:= -1}):=by unfold Bi;rw [if_neg h1,if_pos h2]
   (conv=>whnf);rw [d2];refine VC.fa CO (ld1 (v:=.int .i64 f.factor) ct3 (Bm st (k:=5) rfl) trivial (VC.fa C8 (E7 (k:=4) (f':={f with row:=f.factor}) st ct3 (by decide) rfl rfl fun G1 sg1 ja=>(VC.fa CO (E7 (k:=5) (f':={f with row:=f.factor,factor:= -1}) sg1 ct3 (by decide) rfl rfl fun G2 sg2 ja=>?_)))));(conv=>whnf);rw [e];exact⟨na,nc,sg2⟩
  ·have d2:decide (f.row<0)=false:=decide_eq_false h2;have e:Bi ds f=(ds++[A7 2 f.row f.factor],{f with row:=ds.length,factor:= -1}):=by unfold Bi;rw [if_neg h1,if_neg h2]
   (conv=>whnf);rw [d2];refine Ar.heldZ (fun k=>k=fb) [13] (sq [0,1,2,3,4,5,6,7,8,9] (.f 10 (sq [11,12] (.f 13 .e)))) rfl (by kernel_rfl) (VC.fa C8 (ld1 (v:=.int .i64 f.row) ct3 (Bm st (k:=4) rfl) rfl (VC.fa CO (ld1 (v:=.int .i64 f.factor) ct3 (Bm st (k:=5) rfl) rfl ?_))));refine Ad.mk (Je (op:=2) st (by unfold AH;omega) hn.row hn.factor hl) ?_;rintro _ G1 ⟨rfl,af,na1,nc1,sg1⟩;refine⟨af,?_⟩;refine VC.fa C8 (E7 (k:=4) (f':={f with row:=ds.length}) sg1 ct3 (by decide) rfl rfl fun G2 sg2 ja=>(VC.fa CO (E7 (k:=5) (f':={f with row:=ds.length,factor:= -1}) sg2 ct3 (by decide) rfl rfl fun G3 sg3 ja=>?_)));(conv=>whnf);rw [e];exact⟨na1,nc1,sg3⟩
theorem OU{fr:List FrD}{f:FrD}(st:StB B H0 H (stP sb fb na nc fc n ds (fr++[f]) rest))(hn:FrN f)(hl:ds.length≤16777200):
  Al Tryz.prog 79 #[.pointer (some ⟨sb,0,none⟩)] H (fun _ H'=>∃na' nc',StB B H0 H' (stP sb fb na' nc' fc n (CJ ds f).1 (fr++[(CJ ds f).2]) rest)):=by
 have hlen:=Tn st;have hmx:=st.max 2 rfl;simp only [Ac8,AbY,maxLen]at hmx;refine Al.of_vc Tryz.func79 rfl (Tryz.call79 _) (Ad.mk (NH st hn (by omega)) ?_);rintro v1 H1 ⟨na1,nc1,st1⟩;have hn1:=Im hn (ds:=ds) (by omega);have hl1:=Gp ds f;have e0:CJ ds f=EC (CG (Bi ds f).1 (Bi ds f).2).1 (CG (Bi ds f).1 (Bi ds f).2).2:=rfl;obtain⟨ds1,f1,hq⟩:∃ds1 f1,Bi ds f=(ds1,f1):=⟨_,_,rfl⟩;rw [hq]at st1 hn1 hl1 e0;replace st1:StB B H0 H1 (stP sb fb na1 nc1 fc n ds1 (fr++[f1]) rest):=st1;replace hn1:FrN f1:=hn1;replace hl1:ds1.length≤ds.length+1:=hl1;replace e0:CJ ds f=EC (CG ds1 f1).1 (CG ds1 f1).2:=e0;refine Ar.lex rfl (by kernel_rfl) (VC.fa Bq ?_);refine ld1 (v:=.slice (some ⟨fb,0,none⟩) n fc) Cz (by rw [(st1.blk 0 rfl).cell];rfl) trivial ?_;refine VC.fa Bq ?_;refine ld1 (v:=.slice (some ⟨fb,0,none⟩) n fc) Cz (by rw [(st1.blk 0 rfl).cell];rfl) trivial ?_;(conv=>whnf);rw [w64 (x:=(n:Int) - 1) (by omega) (by omega)];refine ixE (j:=fr.length) F0 st1 2 rfl (by simp) (by omega) ?_;(conv=>whnf);try (refine Av.run ?_)
 refine VC.fa C8 (ld1 (v:=.int .i64 f1.row) ct3 (Bm st1 (k:=4) rfl) trivial ?_);by_cases h2:f1.row<0
 ·have d2:decide (f1.row<0)=true:=decide_eq_true h2;have e1:EC (CG ds1 f1).1 (CG ds1 f1).2=EC (ds1++[A7 0 0 0]) {f1 with row:=(ds1.length:Int)}:=by unfold CG;rw [if_pos h2]
  (conv=>whnf);rw [d2];refine Ad.mk (Je (op:=0) (x:=0) (y:=0) st1 (by unfold AH;omega) (by unfold AH;omega) (by unfold AH;omega) (by omega)) ?_;rintro _ G8 ⟨rfl,af8,na8,nc8,sg8⟩;refine VC.fa C8 (E7 (k:=4) (f':={f1 with row:=(ds1.length:Int)}) sg8 ct3 (by decide) rfl rfl fun G9 sg9 ja=>?_);have hn2:FrN {f1 with row:=(ds1.length:Int)}:=⟨hn1.alt,hn1.meet,Ka (by omega),hn1.factor⟩;(conv=>whnf);try (refine Av.run ?_)
  refine VC.fa CN (ld1 (v:=.int .i64 ({f1 with row:=(ds1.length:Int)}).meet) ct3 (Bm sg9 (k:=2) rfl) trivial ?_);by_cases m1:f1.meet<0
  ·have d3:decide (f1.meet<0)=true:=decide_eq_true m1;have e:CJ ds f=(ds1++[A7 0 0 0],{({f1 with row:=(ds1.length:Int)})with meet:=({f1 with row:=(ds1.length:Int)}).row,row:= -1}):=by rw [e0,e1];unfold EC;rw [if_pos m1]
   (conv=>whnf);rw [d3];refine VC.fa C8 (ld1 (v:=.int .i64 ({f1 with row:=(ds1.length:Int)}).row) ct3 (Bm sg9 (k:=4) rfl) trivial (VC.fa CN (E7 (k:=2) (f':={({f1 with row:=(ds1.length:Int)})with meet:=({f1 with row:=(ds1.length:Int)}).row}) sg9 ct3 (by decide) rfl rfl fun G5 sg5 ja=>(VC.fa C8 (E7 (k:=4) (f':={({f1 with row:=(ds1.length:Int)})with meet:=({f1 with row:=(ds1.length:Int)}).row,row:= -1}) sg5 ct3 (by decide) rfl rfl fun G6 sg6 ja=>?_)))));(conv=>whnf);rw [e];exact⟨_,_,sg6⟩
  ·have d3:decide (f1.meet<0)=false:=decide_eq_false m1;(conv=>whnf);rw [d3];(conv=>whnf);try (refine Av.run ?_)
   refine VC.fa LC (ld1 (v:=.int .u8 (({f1 with row:=(ds1.length:Int)}).sign:Int)) ct5 (Bm sg9 (k:=3) rfl) trivial ?_);by_cases s1:f1.sign=38
   ·have d4:((f1.sign:Int)==38)=true:=by rw [s1];rfl
    have e:CJ ds f=(ds1++[A7 0 0 0]++[A7 5 ({f1 with row:=(ds1.length:Int)}).meet ({f1 with row:=(ds1.length:Int)}).row],{({f1 with row:=(ds1.length:Int)})with meet:=((ds1++[A7 0 0 0]).length:Int),row:= -1}):=by rw [e0,e1];unfold EC;rw [if_neg m1];show(_++[A7 (if f1.sign=38 then 5 else 6) _ _],_)=_;rw [if_pos s1]
    (conv=>whnf);rw [d4];refine Ar.heldZ (fun k=>k=fb) [13] (sq [0,1,2,3,4,5,6,7,8,9] (.f 10 (sq [11,12] (.f 13 .e)))) rfl (by kernel_rfl) (VC.fa CN (ld1 (v:=.int .i64 ({f1 with row:=(ds1.length:Int)}).meet) ct3 (Bm sg9 (k:=2) rfl) rfl (VC.fa C8 (ld1 (v:=.int .i64 ({f1 with row:=(ds1.length:Int)}).row) ct3 (Bm sg9 (k:=4) rfl) rfl ?_))));refine Ad.mk (Je (op:=5) sg9 (by unfold AH;omega) hn2.meet hn2.row (by simp;omega)) ?_;rintro _ G1 ⟨rfl,af,na1,nc1,sg1⟩;refine⟨af,?_⟩;refine VC.fa CN (E7 (k:=2) (f':={({f1 with row:=(ds1.length:Int)})with meet:=((ds1++[A7 0 0 0]).length:Int)}) sg1 ct3 (by decide) rfl rfl fun G2 sg2 ja=>(VC.fa C8 (E7 (k:=4) (f':={({f1 with row:=(ds1.length:Int)})with meet:=((ds1++[A7 0 0 0]).length:Int),row:= -1}) sg2 ct3 (by decide) rfl rfl fun G6 sg6 ja=>?_)));(conv=>whnf);rw [e];exact⟨_,_,sg6⟩
   ·have d4:((f1.sign:Int)==38)=false:=beq_eq_false_iff_ne.2 (by omega);have e:CJ ds f=(ds1++[A7 0 0 0]++[A7 6 ({f1 with row:=(ds1.length:Int)}).meet ({f1 with row:=(ds1.length:Int)}).row],{({f1 with row:=(ds1.length:Int)})with meet:=((ds1++[A7 0 0 0]).length:Int),row:= -1}):=by rw [e0,e1];unfold EC;rw [if_neg m1];show(_++[A7 (if f1.sign=38 then 5 else 6) _ _],_)=_;rw [if_neg s1]
    (conv=>whnf);rw [d4];refine Ar.heldZ (fun k=>k=fb) [13] (sq [0,1,2,3,4,5,6,7,8,9] (.f 10 (sq [11,12] (.f 13 .e)))) rfl (by kernel_rfl) (VC.fa CN (ld1 (v:=.int .i64 ({f1 with row:=(ds1.length:Int)}).meet) ct3 (Bm sg9 (k:=2) rfl) rfl (VC.fa C8 (ld1 (v:=.int .i64 ({f1 with row:=(ds1.length:Int)}).row) ct3 (Bm sg9 (k:=4) rfl) rfl ?_))));refine Ad.mk (Je (op:=6) sg9 (by unfold AH;omega) hn2.meet hn2.row (by simp;omega)) ?_;rintro _ G1 ⟨rfl,af,na1,nc1,sg1⟩;refine⟨af,?_⟩;refine VC.fa CN (E7 (k:=2) (f':={({f1 with row:=(ds1.length:Int)})with meet:=((ds1++[A7 0 0 0]).length:Int)}) sg1 ct3 (by decide) rfl rfl fun G2 sg2 ja=>(VC.fa C8 (E7 (k:=4) (f':={({f1 with row:=(ds1.length:Int)})with meet:=((ds1++[A7 0 0 0]).length:Int),row:= -1}) sg2 ct3 (by decide) rfl rfl fun G6 sg6 ja=>?_)));(conv=>whnf);rw [e];exact⟨_,_,sg6⟩
 ·have d2:decide (f1.row<0)=false:=decide_eq_false h2;have e1:EC (CG ds1 f1).1 (CG ds1 f1).2=EC ds1 f1:=by unfold CG;rw [if_neg h2]
  (conv=>whnf);rw [d2];(conv=>whnf);try (refine Av.run ?_)
  refine VC.fa CN (ld1 (v:=.int .i64 (f1).meet) ct3 (Bm st1 (k:=2) rfl) trivial ?_);by_cases m1:f1.meet<0
  ·have d3:decide (f1.meet<0)=true:=decide_eq_true m1;have e:CJ ds f=(ds1,{(f1)with meet:=(f1).row,row:= -1}):=by rw [e0,e1];unfold EC;rw [if_pos m1]
   (conv=>whnf);rw [d3];refine VC.fa C8 (ld1 (v:=.int .i64 (f1).row) ct3 (Bm st1 (k:=4) rfl) trivial (VC.fa CN (E7 (k:=2) (f':={(f1)with meet:=(f1).row}) st1 ct3 (by decide) rfl rfl fun G5 sg5 ja=>(VC.fa C8 (E7 (k:=4) (f':={(f1)with meet:=(f1).row,row:= -1}) sg5 ct3 (by decide) rfl rfl fun G6 sg6 ja=>?_)))));(conv=>whnf);rw [e];exact⟨_,_,sg6⟩
  ·have d3:decide (f1.meet<0)=false:=decide_eq_false m1;(conv=>whnf);rw [d3];(conv=>whnf);try (refine Av.run ?_)
   refine VC.fa LC (ld1 (v:=.int .u8 ((f1).sign:Int)) ct5 (Bm st1 (k:=3) rfl) trivial ?_);by_cases s1:f1.sign=38
   ·have d4:((f1.sign:Int)==38)=true:=by rw [s1];rfl
    have e:CJ ds f=(ds1++[A7 5 (f1).meet (f1).row],{(f1)with meet:=((ds1).length:Int),row:= -1}):=by rw [e0,e1];unfold EC;rw [if_neg m1];show(_++[A7 (if f1.sign=38 then 5 else 6) _ _],_)=_;rw [if_pos s1]
    (conv=>whnf);rw [d4];refine Ar.heldZ (fun k=>k=fb) [13] (sq [0,1,2,3,4,5,6,7,8,9] (.f 10 (sq [11,12] (.f 13 .e)))) rfl (by kernel_rfl) (VC.fa CN (ld1 (v:=.int .i64 (f1).meet) ct3 (Bm st1 (k:=2) rfl) rfl (VC.fa C8 (ld1 (v:=.int .i64 (f1).row) ct3 (Bm st1 (k:=4) rfl) rfl ?_))));refine Ad.mk (Je (op:=5) st1 (by unfold AH;omega) hn1.meet hn1.row (by omega)) ?_;rintro _ G1 ⟨rfl,af,na1,nc1,sg1⟩;refine⟨af,?_⟩;refine VC.fa CN (E7 (k:=2) (f':={(f1)with meet:=((ds1).length:Int)}) sg1 ct3 (by decide) rfl rfl fun G2 sg2 ja=>(VC.fa C8 (E7 (k:=4) (f':={(f1)with meet:=((ds1).length:Int),row:= -1}) sg2 ct3 (by decide) rfl rfl fun G6 sg6 ja=>?_)));(conv=>whnf);rw [e];exact⟨_,_,sg6⟩
   ·have d4:((f1.sign:Int)==38)=false:=beq_eq_false_iff_ne.2 (by omega);have e:CJ ds f=(ds1++[A7 6 (f1).meet (f1).row],{(f1)with meet:=((ds1).length:Int),row:= -1}):=by rw [e0,e1];unfold EC;rw [if_neg m1];show(_++[A7 (if f1.sign=38 then 5 else 6) _ _],_)=_;rw [if_neg s1]
    (conv=>whnf);rw [d4];refine Ar.heldZ (fun k=>k=fb) [13] (sq [0,1,2,3,4,5,6,7,8,9] (.f 10 (sq [11,12] (.f 13 .e)))) rfl (by kernel_rfl) (VC.fa CN (ld1 (v:=.int .i64 (f1).meet) ct3 (Bm st1 (k:=2) rfl) rfl (VC.fa C8 (ld1 (v:=.int .i64 (f1).row) ct3 (Bm st1 (k:=4) rfl) rfl ?_))));refine Ad.mk (Je (op:=6) st1 (by unfold AH;omega) hn1.meet hn1.row (by omega)) ?_;rintro _ G1 ⟨rfl,af,na1,nc1,sg1⟩;refine⟨af,?_⟩;refine VC.fa CN (E7 (k:=2) (f':={(f1)with meet:=((ds1).length:Int)}) sg1 ct3 (by decide) rfl rfl fun G2 sg2 ja=>(VC.fa C8 (E7 (k:=4) (f':={(f1)with meet:=((ds1).length:Int),row:= -1}) sg2 ct3 (by decide) rfl rfl fun G6 sg6 ja=>?_)));(conv=>whnf);rw [e];exact⟨_,_,sg6⟩
theorem Mv{fr:List FrD}{f:FrD}(st:StB B H0 H (stP sb fb na nc fc n ds (fr++[f]) rest))(hn:FrN f)(hl:ds.length≤16777200):
  Al Tryz.prog 78 #[.pointer (some ⟨sb,0,none⟩)] H (fun _ H'=>∃na' nc',StB B H0 H' (stP sb fb na' nc' fc n (Ec ds f).1 (fr++[(Ec ds f).2]) rest)):=by
 have hlen:=Tn st;have hmx:=st.max 2 rfl;simp only [Ac8,AbY,maxLen]at hmx;refine Al.of_vc Tryz.func78 rfl (Tryz.call78 _) (Ad.mk (OU st hn (by omega)) ?_);rintro v1 H1 ⟨na1,nc1,st1⟩;have hn1:=Um hn (ds:=ds) (by omega);have hl1:=I7 ds f;have e0:Ec ds f=PX (CJ ds f).1 (CJ ds f).2:=rfl;obtain⟨ds1,f1,hq⟩:∃ds1 f1,CJ ds f=(ds1,f1):=⟨_,_,rfl⟩;rw [hq]at st1 hn1 hl1 e0;replace st1:StB B H0 H1 (stP sb fb na1 nc1 fc n ds1 (fr++[f1]) rest):=st1;replace hn1:FrN f1:=hn1;replace hl1:ds1.length≤ds.length+3:=hl1;replace e0:Ec ds f=PX ds1 f1:=e0;refine Ar.lex rfl (by kernel_rfl) (VC.fa Bq ?_);refine ld1 (v:=.slice (some ⟨fb,0,none⟩) n fc) Cz (by rw [(st1.blk 0 rfl).cell];rfl) trivial ?_;refine VC.fa Bq ?_;refine ld1 (v:=.slice (some ⟨fb,0,none⟩) n fc) Cz (by rw [(st1.blk 0 rfl).cell];rfl) trivial ?_;(conv=>whnf);rw [w64 (x:=(n:Int) - 1) (by omega) (by omega)];refine ixE (j:=fr.length) F0 st1 2 rfl (by simp) (by omega) ?_;(conv=>whnf);try (refine Av.run ?_)
 refine VC.fa I5 (ld1 (v:=.int .i64 f1.alt) ct3 (Bm st1 (k:=1) rfl) trivial ?_);by_cases h2:f1.alt<0
 ·have d2:decide (f1.alt<0)=true:=decide_eq_true h2;have e:Ec ds f=(ds1,{f1 with alt:=f1.meet,meet:= -1}):=by rw [e0];unfold PX;rw [if_pos h2]
  (conv=>whnf);rw [d2];refine VC.fa CN (ld1 (v:=.int .i64 f1.meet) ct3 (Bm st1 (k:=2) rfl) trivial (VC.fa I5 (E7 (k:=1) (f':={f1 with alt:=f1.meet}) st1 ct3 (by decide) rfl rfl fun G5 sg5 ja=>(VC.fa CN (E7 (k:=2) (f':={f1 with alt:=f1.meet,meet:= -1}) sg5 ct3 (by decide) rfl rfl fun G6 sg6 ja=>?_)))));(conv=>whnf);rw [e];exact⟨_,_,sg6⟩
 ·have d2:decide (f1.alt<0)=false:=decide_eq_false h2;have e:Ec ds f=(ds1++[A7 3 f1.alt f1.meet],{f1 with alt:=(ds1.length:Int),meet:= -1}):=by rw [e0];unfold PX;rw [if_neg h2]
  (conv=>whnf);rw [d2];refine Ar.heldZ (fun k=>k=fb) [13] (sq [0,1,2,3,4,5,6,7,8,9] (.f 10 (sq [11,12] (.f 13 .e)))) rfl (by kernel_rfl) (VC.fa I5 (ld1 (v:=.int .i64 f1.alt) ct3 (Bm st1 (k:=1) rfl) rfl (VC.fa CN (ld1 (v:=.int .i64 f1.meet) ct3 (Bm st1 (k:=2) rfl) rfl ?_))));refine Ad.mk (Je (op:=3) st1 (by unfold AH;omega) hn1.alt hn1.meet (by omega)) ?_;rintro _ G1 ⟨rfl,af,na1,nc1,sg1⟩;refine⟨af,?_⟩;refine VC.fa I5 (E7 (k:=1) (f':={f1 with alt:=(ds1.length:Int)}) sg1 ct3 (by decide) rfl rfl fun G2 sg2 ja=>(VC.fa CN (E7 (k:=2) (f':={f1 with alt:=(ds1.length:Int),meet:= -1}) sg2 ct3 (by decide) rfl rfl fun G6 sg6 ja=>?_)));(conv=>whnf);rw [e];exact⟨_,_,sg6⟩
end
end Go.Proofs.YtfbghcpdinlmcaaGreatDoor
namespace Go.VC
theorem StB.rebase{B:Nat→Prop}{H0 H:Aa}{ps:List Pc}(st:StB B H0 H ps):StB B H H ps:=⟨Agr.refl _ _,fun k hk=>st.up hk,AaV _,st.oks,st.rng,st.dis⟩
theorem StB.widen{B:Nat→Prop}{H0 H H':Aa}{ps:List Pc}(st:StB B H0 H ps)(ha:Agr (Old H) H H')(N:Nat→Prop)(hN:∀k,N k→H.size≤k∧k<H'.size):StB (fun k=>B k∨N k) H' H' ps:=by
 have st':=st.call ha;refine⟨Agr.refl _ _,fun k hk=>?_,AaV _,st'.oks,fun p hp k hk=>⟨fun hB=>?_,(st'.rng p hp k hk).2⟩,st'.dis⟩
 ·rcases hk with hk | hk
  ·exact st'.up hk
  ·exact(hN k hk).2
 ·rcases hB with hB | hB
  ·exact(st.rng p hp k hk).1 hB
  ·have:=(st.rng p hp k hk).2;have:=(hN k hB).1;omega
end Go.VC
namespace Go.Proofs.YtfbghcpdinlmcaaGreatDoor
open Go.VC Go.Lib
inductive ROp
 | alt
 | cat
 | and_
 | minus
def opR:ROp→ReM→ReM→ReM
 | .alt=>.alt
 | .cat=>.cat
 | .and_=>.and_
 | .minus=>.minus
def opF:ROp→FuncId
 | .alt=>131
 | .cat=>194
 | .and_=>167
 | .minus=>168
theorem Oa(op:ROp)(a b:ReM):(opR op a b).nodes=1+a.nodes+b.nodes:=by cases op<;>rfl
def szR(r:ReM):Nat:=min r.nodes 2001
def Ab(r:ReM)(fn:Value):List Value:=[.int .i64 ((szR r:Nat):Int),fn]
inductive C9(B:Nat→Prop)(H:Aa):Value→ReM→Prop
 | leaf {b:Nat} {r:ReM}:B b→Blk H b 28 [Ag r]→C9 B H (.func (.func 214) #[] #[.pointer (some ⟨b,0,none⟩)]) r
 | join {b1 b2 b3:Nat} {va vb:Value} {ra rb:ReM} (op:ROp):B b1→B b2→B b3→Blk H b1 238 [.func (.func (opF op)) #[] #[]]→Blk H b2 142 (Ab ra va)→Blk H b3 142 (Ab rb vb)→
   C9 B H va ra→C9 B H vb rb→C9 B H (.func (.func 170) #[] #[.pointer (some ⟨b1,0,none⟩),.pointer (some ⟨b2,0,none⟩),.pointer (some ⟨b3,0,none⟩)]) (opR op ra rb)
 | star {b:Nat} {va:Value} {ra:ReM}:B b→Blk H b 142 (Ab ra va)→C9 B H va ra→C9 B H (.func (.func 230) #[] #[.pointer (some ⟨b,0,none⟩)]) (.star ra)
theorem C9.frame{B B':Nat→Prop}{H H':Aa}{v:Value}{r:ReM}(h:C9 B H v r)(k:Agr B H H')(s:∀k,B k→B' k):C9 B' H' v r:=by
 induction h with
 | leaf h1 h2=>exact .leaf (s _ h1) (h2.agr k h1)
 | join op h1 h2 h3 h4 h5 h6 _ _ ih1 ih2=>exact .join op (s _ h1) (s _ h2) (s _ h3) (h4.agr k h1) (h5.agr k h2) (h6.agr k h3) ih1 ih2
 | star h1 h2 _ ih=>exact .star (s _ h1) (h2.agr k h1) ih
theorem TT{B:Nat→Prop}{H H':Aa}(ha:Agr B H H')(hB:∀k,B k→k<H.size){k:Nat}(hk:B k):k<H'.size:=by
 have h:=ha k hk;rw [AbX (hB k hk)]at h;exact(Array.getElem?_eq_some_iff.1 h).1
theorem op_p(op:ROp)(a b:ReM)(H:Aa):BX Tryz.prog (opF op) #[Ag a,Ag b] H (Ag (opR op a b)):=by
 obtain⟨T1,v1,e1⟩:=FP a;obtain⟨T2,v2,e2⟩:=FP b;cases op with
 | alt=>
   show BX Tryz.prog 131 #[Ag a,Ag b] H (.iface 305 (.agg #[Ag a,Ag b]));rw [e1,e2];refine Al.of_vc Tryz.func131 rfl (Tryz.call131 _) (Aw Tryz.underlying305 rfl _ rfl [.iface T1 v1,.iface T2 v2] rfl ?_);(conv=>whnf);exact⟨rfl,Agr.refl _ _⟩
 | cat=>
   show BX Tryz.prog 194 #[Ag a,Ag b] H (.iface 105 (.agg #[Ag a,Ag b]));rw [e1,e2];refine Al.of_vc Tryz.func194 rfl (Tryz.call194 _) (Aw Tryz.underlying105 rfl _ rfl [.iface T1 v1,.iface T2 v2] rfl ?_);(conv=>whnf);exact⟨rfl,Agr.refl _ _⟩
 | and_=>
   show BX Tryz.prog 167 #[Ag a,Ag b] H (.iface 64 (.agg #[Ag a,Ag b]));rw [e1,e2];refine Al.of_vc Tryz.func167 rfl (Tryz.call167 _) (Aw Tryz.underlying64 rfl _ rfl [.iface T1 v1,.iface T2 v2] rfl ?_);(conv=>whnf);exact⟨rfl,Agr.refl _ _⟩
 | minus=>
   show BX Tryz.prog 168 #[Ag a,Ag b] H (.iface 65 (.agg #[Ag a,Ag b]));rw [e1,e2];refine Al.of_vc Tryz.func168 rfl (Tryz.call168 _) (Aw Tryz.underlying65 rfl _ rfl [.iface T1 v1,.iface T2 v2] rfl ?_);(conv=>whnf);exact⟨rfl,Agr.refl _ _⟩
theorem L4(cap:Array Value):(((#[]:Array Value).toList++([]:List Value))++cap.toList).toArray=cap:=by simp
theorem ZI{B:Nat→Prop}{H:Aa}{v:Value}{r:ReM}(h:C9 B H v r)(hB:∀k,B k→k<H.size):∃g cap,v= .func (.func g) #[] cap∧∀H',Agr B H H'→BX Tryz.prog g cap H' (Ag r):=by
 induction h with
 | @leaf b r h1 h2=>
   refine⟨_,_,rfl,fun H' ha=>?_⟩;have hb:=h2.agr ha h1;refine Al.of_vc Tryz.func214 rfl (Tryz.call214 _) ?_;refine ld1 (v:=Ag r) D3 (by rw [hb.cell];rfl) trivial ?_;(conv=>whnf);exact⟨rfl,Agr.refl _ _⟩
 | @join b1 b2 b3 va vb ra rb op h1 h2 h3 h4 h5 h6 _ _ ih1 ih2=>
   refine⟨_,_,rfl,fun H' ha=>?_⟩;have k4:=h4.agr ha h1;have k5:=h5.agr ha h2;have k6:=h6.agr ha h3;obtain⟨g1,c1,rfl,p1⟩:=ih1;obtain⟨g2,c2,rfl,p2⟩:=ih2;refine Al.of_vc Tryz.func170 rfl (Tryz.call170 _) (Ar.held (Old H') 9 (sq [0,1,2,4,5] (.f 3 (.f 6 (.f 7 (.f 8 .e))))) rfl (by kernel_rfl) ?_);refine ld1 (v:=.func (.func (opF op)) #[] #[]) Ab7 (by rw [k4.cell];rfl) k4.lt ?_;refine VC.fa LB ?_;refine ld1 (v:=.func (.func g1) #[] c1) SQ (by rw [k5.cell];rfl) k5.lt ?_;refine VC.fa LB ?_;refine ld1 (v:=.func (.func g2) #[] c2) SQ (by rw [k6.cell];rfl) k6.lt ?_;(conv=>whnf);rw [L4];refine Am (p1 H' ha) fun G1 ga1=>?_;refine⟨ga1,?_⟩;have ha2:Agr B H G1:=ha.trans (ga1.mono fun k hk=>TT ha hB hk);(conv=>whnf);rw [L4];refine Am (p2 G1 ha2) fun G2 ga2=>?_;have ga3:=ga1.trans (ga2.mono fun k hk=>Aj ga1 hk);refine⟨ga3,?_⟩;refine Am (op_p op ra rb G2) fun G3 ga4=>?_;have ga5:=ga3.trans (ga4.mono fun k hk=>Aj ga3 hk);refine⟨ga5,?_⟩;(conv=>whnf);refine⟨ga5,?_⟩;exact⟨rfl,ga5⟩
 | @star b va ra h1 h2 _ ih=>
   refine⟨_,_,rfl,fun H' ha=>?_⟩;have k2:=h2.agr ha h1;obtain⟨g1,c1,rfl,p1⟩:=ih;refine Al.of_vc Tryz.func230 rfl (Tryz.call230 _) (VC.fa LB ?_);refine ld1 (v:=.func (.func g1) #[] c1) SQ (by rw [k2.cell];rfl) trivial ?_;(conv=>whnf);rw [L4];refine Am (p1 H' ha) fun G1 ga1=>?_;obtain⟨T1,v1,e1⟩:=FP ra;show _;rw [show Ag (.star ra)= .iface 310 (.agg #[Ag ra])from rfl];rw [e1];refine Aw Tryz.underlying310 rfl _ rfl [.iface T1 v1] rfl ?_;(conv=>whnf);exact⟨rfl,ga1⟩
structure PQ(B:Nat→Prop)(H:Aa)(ps:List Pc)(r:ReM)(v:Value)(H':Aa):Prop where
 ex:∃(B':Nat→Prop) (fn:Value),v= .agg (Ab r fn).toArray∧(∀k,B k→B' k)∧Agr (Old H) H H'∧StB B' H' H' ps∧C9 B' H' fn r
theorem C9.fn{B:Nat→Prop}{H:Aa}{v:Value}{r:ReM}(h:C9 B H v r):∃g c,v= .func (.func g) #[] c:=by
 cases h<;>exact⟨_,_,rfl⟩
theorem Cu{l:List Value}{r:ReM}{v:Value}(h:l.length=2):Ai l 0 (Ab r v)=Ab r v:=AD (by rw [h];rfl)
theorem As{H:Aa}{b:Nat}{r:ReM}{v:Value}(h:Blk H b 142 (Ab r v)):AX H b 0 (Ab r v):=h.cells (fun j v hv=>by rw [AcX];exact hv)
def Ak:List Value:=[.int .i64 0,.nilFunc]
theorem De:(Tryz.prog.info? 142).bind (·.zero)=some (.agg Ak.toArray):=by kernel_rfl
theorem Qi(n:Nat)(hn:n<1152921504606846976)(H:Aa):BX Tryz.prog 169 #[.int .i64 (n:Int)] H (.int .i64 ((min n 2001:Nat):Int)):=by
 refine Al.of_vc Tryz.func169 rfl (Tryz.call169 _) (AcE ?_);(conv=>whnf);refine⟨?_,Agr.refl _ _⟩
 congr 1
 split<;>omega
theorem Ft(r:ReM):szR r≤2001:=Nat.min_le_right _ _
theorem Po{B:Nat→Prop}{H0 H:Aa}{ps:List Pc}{r:ReM}(st:StB B H0 H ps)(hr:r.nodes=1):Al Tryz.prog 191 #[Ag r] H (PQ B H ps r):=by
 refine Al.of_vc Tryz.func191 rfl (Tryz.call191 _) ?_;obtain⟨T1,v1,e1⟩:=FP r;rw [e1];refine Cq [.iface T1 v1] rfl ?_;intro b1 H1 hq1 hs1 hb1 ha1;refine An (.agg Ak.toArray) Ak De rfl ?_;intro q H2 hq2 hs2 hb2 ha2;refine Aw Tryz.underlying142 rfl _ rfl (Ab r (.func (.func 214) #[] #[.pointer (some ⟨b1,0,none⟩)])) (by unfold Ab szR;rw [hr];rfl) ?_;refine VC.stN (cs:=Ab r (.func (.func 214) #[] #[.pointer (some ⟨b1,0,none⟩)])) rfl hb2 (by simp [Ab,Ak]) rfl ?_;intro H3 hb3 ha3 hs3;rw [Cu rfl]at hb3;refine ldN (cs:=Ab r (.func (.func 214) #[] #[.pointer (some ⟨b1,0,none⟩)])) AO (As hb3) trivial ?_;have ag2:Agr (Old H) H H2:=(ha1.mono fun k hk=>by have:k<H.size:=hk;omega).trans (ha2.mono fun k hk=>by have:k<H.size:=hk;omega);have ag3:Agr (Old H) H H3:=ag2.trans (ha3.mono fun k hk=>by have:k<H.size:=hk;omega);have k1:Blk H3 b1 28 [Ag r]:=by
  rw [e1];exact(hb1.agr ha2 (show b1<q by omega)).agr ha3 (show b1≠q by omega)
 exact⟨_,_,rfl,fun k hk=>.inl hk,ag3,st.widen ag3 (fun k=>k=b1) (fun k hk=>by omega),.leaf (.inr rfl) k1⟩
theorem Fq{B:Nat→Prop}{H0 H:Aa}{ps:List Pc}{ra rb:ReM}{va vb:Value}(op:ROp)(st:StB B H0 H ps)(ga:C9 B H va ra)(gb:C9 B H vb rb):
  Al Tryz.prog 130 #[.agg (Ab ra va).toArray,.agg (Ab rb vb).toArray,.func (.func (opF op)) #[] #[]] H (PQ B H ps (opR op ra rb)):=by
 obtain⟨g1,c1,rfl⟩:=ga.fn;obtain⟨g2,c2,rfl⟩:=gb.fn;have z1:=Ft ra;have z2:=Ft rb;refine Al.of_vc Tryz.func130 rfl (Tryz.call130 _) (Cq (Ab ra (.func (.func g1) #[] c1)) rfl ?_);intro b2 H1 hq1 hs1 hb1 ha1;refine Cq (Ab rb (.func (.func g2) #[] c2)) rfl ?_;intro b3 H2 hq2 hs2 hb2 ha2;refine Cq [.func (.func (opF op)) #[] #[]] rfl ?_;intro b1 H3 hq3 hs3 hb3 ha3;refine An (.agg Ak.toArray) Ak De rfl ?_;intro q H4 hq4 hs4 hb4 ha4;have k2:Blk H4 b2 142 (Ab ra (.func (.func g1) #[] c1)):=((hb1.agr ha2 (show b2<b3 by omega)).agr ha3 (show b2<b1 by omega)).agr ha4 (show b2<q by omega);have k3:Blk H4 b3 142 (Ab rb (.func (.func g2) #[] c2)):=(hb2.agr ha3 (show b3<b1 by omega)).agr ha4 (show b3<q by omega);have k1:Blk H4 b1 238 [.func (.func (opF op)) #[] #[]]:=hb3.agr ha4 (show b1<q by omega);refine VC.fa LA ?_;refine ld1 (v:=.int .i64 ((szR ra:Nat):Int)) ct3 (by rw [k2.cell];rfl) trivial ?_;(conv=>whnf);rw [w64 (x:=1+((szR ra:Nat):Int)) (by omega) (by omega)];refine VC.fa LA ?_;refine ld1 (v:=.int .i64 ((szR rb:Nat):Int)) ct3 (by rw [k3.cell];rfl) trivial ?_;(conv=>whnf);rw [w64 (x:=1+((szR ra:Nat):Int)+((szR rb:Nat):Int)) (by omega) (by omega)];rw [show 1+((szR ra:Nat):Int)+((szR rb:Nat):Int)=((1+szR ra+szR rb:Nat):Int) by omega];refine Am (Qi (1+szR ra+szR rb) (by omega) H4) fun H5 ha5=>?_;have hsz:min (1+szR ra+szR rb) 2001=szR (opR op ra rb):=by unfold szR;rw [Oa];omega
 rw [hsz];have fnv:=Ab (opR op ra rb) (.func (.func 170) #[] #[.pointer (some ⟨b1,0,none⟩),.pointer (some ⟨b2,0,none⟩),.pointer (some ⟨b3,0,none⟩)]);refine Aw Tryz.underlying142 rfl _ rfl (Ab (opR op ra rb) (.func (.func 170) #[] #[.pointer (some ⟨b1,0,none⟩),.pointer (some ⟨b2,0,none⟩),.pointer (some ⟨b3,0,none⟩)])) rfl (VC.stN (cs:=Ab (opR op ra rb) (.func (.func 170) #[] #[.pointer (some ⟨b1,0,none⟩),.pointer (some ⟨b2,0,none⟩),.pointer (some ⟨b3,0,none⟩)])) rfl (hb4.agr ha5 hb4.lt) (by simp [Ab,Ak]) rfl ?_);intro H6 hb6 ha6 hs6;rw [Cu rfl]at hb6;refine ldN (cs:=Ab (opR op ra rb) (.func (.func 170) #[] #[.pointer (some ⟨b1,0,none⟩),.pointer (some ⟨b2,0,none⟩),.pointer (some ⟨b3,0,none⟩)])) AO (As hb6) trivial ?_;have ag4:Agr (Old H) H H4:=(((ha1.mono fun k hk=>by have:k<H.size:=hk;omega).trans (ha2.mono fun k hk=>by have:k<H.size:=hk;omega)).trans (ha3.mono fun k hk=>by have:k<H.size:=hk;omega)).trans (ha4.mono fun k hk=>by have:k<H.size:=hk;omega);have ag6:Agr (Old H) H H6:=(ag4.trans (ha5.mono fun k hk=>Aj ag4 hk)).trans (ha6.mono fun k hk=>by have:k<H.size:=hk;omega);have l5:=Bl ha5;have m:∀{b:Nat} {e:TypeId} {l:List Value},Blk H4 b e l→b≠q→Blk H6 b e l:=fun h hne=>(h.agr ha5 h.lt).agr ha6 hne;have agB:Agr B H H6:=ag6.mono fun k hk=>st.up hk;exact⟨_,_,rfl,fun k hk=>.inl hk,ag6,st.widen ag6 (fun k=>k=b1∨k=b2∨k=b3) (fun k hk=>by rcases hk with rfl | rfl | rfl<;>omega),
  .join op (.inr (.inl rfl)) (.inr (.inr (.inl rfl))) (.inr (.inr (.inr rfl))) (m k1 (by omega)) (m k2 (by omega)) (m k3 (by omega)) (ga.frame agB fun k hk=>.inl hk) (gb.frame agB fun k hk=>.inl hk)⟩
theorem Nk{B:Nat→Prop}{H0 H:Aa}{ps:List Pc}{ra:ReM}{va:Value}(st:StB B H0 H ps)(ga:C9 B H va ra):
  Al Tryz.prog 215 #[.agg (Ab ra va).toArray] H (PQ B H ps (.star ra)):=by
 obtain⟨g1,c1,rfl⟩:=ga.fn;have z1:=Ft ra;refine Al.of_vc Tryz.func215 rfl (Tryz.call215 _) (Cq (Ab ra (.func (.func g1) #[] c1)) rfl ?_);intro b2 H1 hq1 hs1 hb1 ha1;refine An (.agg Ak.toArray) Ak De rfl ?_;intro q H4 hq4 hs4 hb4 ha4;have k2:Blk H4 b2 142 (Ab ra (.func (.func g1) #[] c1)):=hb1.agr ha4 (show b2<q by omega);refine VC.fa LA ?_;refine ld1 (v:=.int .i64 ((szR ra:Nat):Int)) ct3 (by rw [k2.cell];rfl) trivial ?_;(conv=>whnf);rw [w64 (x:=1+((szR ra:Nat):Int)) (by omega) (by omega)];rw [show 1+((szR ra:Nat):Int)=((1+szR ra:Nat):Int) by omega];refine Am (Qi (1+szR ra) (by omega) H4) fun H5 ha5=>?_;have hsz:min (1+szR ra) 2001=szR (.star ra):=by unfold szR;show _=min (1+ra.nodes) 2001;omega
 rw [hsz];refine Aw Tryz.underlying142 rfl _ rfl (Ab (.star ra) (.func (.func 230) #[] #[.pointer (some ⟨b2,0,none⟩)])) rfl (VC.stN (cs:=Ab (.star ra) (.func (.func 230) #[] #[.pointer (some ⟨b2,0,none⟩)])) rfl (hb4.agr ha5 hb4.lt) (by simp [Ab,Ak]) rfl ?_);intro H6 hb6 ha6 hs6;rw [Cu rfl]at hb6;refine ldN (cs:=Ab (.star ra) (.func (.func 230) #[] #[.pointer (some ⟨b2,0,none⟩)])) AO (As hb6) trivial ?_;have ag4:Agr (Old H) H H4:=(ha1.mono fun k hk=>by have:k<H.size:=hk;omega).trans (ha4.mono fun k hk=>by have:k<H.size:=hk;omega);have ag6:Agr (Old H) H H6:=(ag4.trans (ha5.mono fun k hk=>Aj ag4 hk)).trans (ha6.mono fun k hk=>by have:k<H.size:=hk;omega);have l5:=Bl ha5;have agB:Agr B H H6:=ag6.mono fun k hk=>st.up hk;exact⟨_,_,rfl,fun k hk=>.inl hk,ag6,st.widen ag6 (fun k=>k=b2) (fun k hk=>by omega),.star (.inr rfl) ((k2.agr ha5 k2.lt).agr ha6 (show b2≠q by omega)) (ga.frame agB fun k hk=>.inl hk)⟩
theorem LK{B:Nat→Prop}{H0 H:Aa}{ps:List Pc}{ra:ReM}{va:Value}(st:StB B H0 H ps)(ga:C9 B H va ra):
  Al Tryz.prog 216 #[.agg (Ab ra va).toArray] H (PQ B H ps (Bj ra)):=by
 obtain⟨g1,c1,rfl⟩:=ga.fn;refine Al.of_vc Tryz.func216 rfl (Tryz.call216 _) (Cq (Ab ra (.func (.func g1) #[] c1)) rfl ?_);intro b2 H1 hq1 hs1 hb1 ha1;refine An (.agg Ak.toArray) Ak De rfl ?_;intro q H4 hq4 hs4 hb4 ha4;have k2:Blk H4 b2 142 (Ab ra (.func (.func g1) #[] c1)):=hb1.agr ha4 (show b2<q by omega);have ag4:Agr (Old H) H H4:=(ha1.mono fun k hk=>by have:k<H.size:=hk;omega).trans (ha4.mono fun k hk=>by have:k<H.size:=hk;omega);have st4:=(st.skip hq1 ha1).box hq4 hs4 hb4 ha4;refine Ar.heldZ (Old H4) [5] (sq [0,1,2] (.f 3 (.f 4 (.f 5 .e)))) rfl (by kernel_rfl) (ldN (cs:=Ab ra (.func (.func g1) #[] c1)) AO (As k2) k2.lt (Aw Tryz.underlying98 rfl _ rfl [] rfl (Ad.mk (Po (r:=.eps) st4 rfl) ?_)));rintro _ H5 ⟨B1,f1,rfl,s1,a1,st5,ge⟩;refine⟨a1,?_⟩;have agB5:Agr B H H5:=(ag4.trans (a1.mono fun k hk=>Aj ag4 hk)).mono fun k hk=>st.up hk;refine Ad.mk (Fq .alt st5 (ga.frame agB5 s1) ge) ?_;rintro _ H6 ⟨B2,f2,rfl,s2,a2,st6,gj⟩;have a12:=a1.trans (a2.mono fun k hk=>Aj a1 hk);refine⟨a12,?_⟩;obtain⟨g2,c2,rfl⟩:=gj.fn;refine Br (cs:=Ab (Bj ra) (.func (.func g2) #[] c2)) st6 _ rfl (Es _ _) (by simp [Ab,Ak]) rfl fun H7 st7 ha7 hs7=>?_;rw [QA,Cu rfl]at st7;have hb7:Blk H7 q 142 (Ab (Bj ra) (.func (.func g2) #[] c2)):=st7.blk _ (Es _ _);refine ldN (cs:=Ab (Bj ra) (.func (.func g2) #[] c2)) AO (As hb7) trivial ?_;have ag6:Agr (Old H) H H6:=ag4.trans (a12.mono fun k hk=>Aj ag4 hk);exact⟨B2,_,rfl,fun k hk=>s2 k (s1 k hk),ag6.trans (ha7.mono fun k hk=>by have:k<H.size:=hk;omega),st7.lft.rebase,gj.frame st7.old fun k hk=>hk⟩
end Go.Proofs.YtfbghcpdinlmcaaGreatDoor
