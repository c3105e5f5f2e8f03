/- Parts of the proof: VRange, VPush, PKeyS, PBld, VHeldG, PNfa3, PNfa4, PNfa5, PNfa6, PTxt, PBlE, PPrt2, PNet04, PBs1 -/
import Derived.Test.YtlnmhfhdjnenoaaGreatDoorKNv2
import Derived.TacticsIn
import Derived.RangeFuncRecord
import Derived.Test.YtlnmhfhdjnenoaaGreatDoorKNv1
set_option maxHeartbeats 64000000
open Array renaming getElem?_eq_some_iff → Vd
open Bool renaming and_eq_true → UX, false_ne_true → Vn
open Int renaming toNat_natCast → Vr
open List renaming length_append → UL, length_cons → UM, length_nil → UN, perm_append_singleton → UP, mem_append → UQ, filter_cons_of_pos → US, mem_singleton → UT, filter_cons_of_neg → UU, getElem?_eq_some_iff → UV, sublist_cons_self → UW, all_eq_true → UY, pairwise_append → Va, mem_of_getElem? → Vb, take_length → Vc, mem_cons_self → Ve, mem_cons → Vf, length_take → Vg, length_singleton → Vh, eq_nil_of_length_eq_zero → Vi, take_of_length_le → Vk, mem_cons_of_mem → Vl, getElem?_of_mem → Vm, pairwise_cons → Vo, filter_append → Vp, nodup_append → Vq, nodup_cons → Vt, mem_filter → Vu, length_map → Vv, replicate → Vw
open Nat renaming le_refl → UO, zero_add → UR, zero_le → UZ, mul_add → Vj, lt_succ_self → Vs
set_option linter.unusedVariables false
set_option linter.unusedSimpArgs false
set_option maxRecDepth 100000
namespace Go.VC
def FW(ro:Option Nat):Fence:={Fence.wide with round:=ro}
theorem Uj(ro:Option Nat)(n:Nat):(FW ro).room n:=fun _ h=>by cases h
theorem PJ{ro:Option Nat}{n:Nat}{P:Program}{f:FuncId}{args:Array Value}{w:World}{R:Ending→World→Prop}(h:Calls P f args w R):CallsIn (FW ro) n P f args w R:=
 ⟨trivial,fun cs _=>(callsIn_wide (n:=n).2 h).2 cs (room_wide _)⟩
theorem Uk{ro:Option Nat}{n:Nat}{P:Program}{row:String}{args:Array Value}{w:World}{R:Value→World→Prop}(h:Rows P row args w R):RowsIn (FW ro) n P row args w R:=
 fun c cs _=>let⟨v,w',r,s⟩:=h c cs;⟨v,w',r,stepsIn_wide.2 s⟩
theorem Q7{ro ro':Option Nat}{n n':Nat}{P:Program}{l:Nat}{f:FuncId}{tmps:Array Value}{assign body:Code}{w:World}{R:Ending→World→Prop}(h:RoundIn (FW ro) n P l f tmps assign body w R):RoundIn (FW ro') n' P l f tmps assign body w R:=
 ⟨trivial,fun c cs _=>h.2 c cs (Uj ro _)⟩
def Sx(ds:List Nat):List Deferred:=ds.map fun D=>{target:=.collected D,args:= #[]}
structure AtD(ds:List Nat)(fr:Fr)(a:Act):Prop where
 tmps:a.tmps.toList=fr
 defers:a.defers=Sx ds
theorem AtD.bare{ds:List Nat}{fr:Fr}{a:Act}(h:AtD ds fr a):At fr {tmps:=a.tmps,defers:=[]}:=⟨h.tmps,rfl⟩
theorem AtD.evalF{ds:List Nat}{fr:Fr}{a:Act}(h:AtD ds fr a):a.eval=evF fr:=by
 rw [←h.bare.evalF];funext x;cases x<;>rfl
theorem AtD.put{ds:List Nat}{fr:Fr}{a:Act}(h:AtD ds fr a)(dst:Option Tmp)(v:Value):AtD ds (match dst with | none=>fr | some d=>fr.set d v) (a.put dst v):=by
 obtain⟨rfl,h2⟩:=h;cases dst with
 | none=>exact⟨rfl,h2⟩
 | some d=>exact⟨by simp [Act.put],h2⟩
theorem Io{a:Act}{dst:Option Tmp}{v v':Value}(h:({tmps:=a.tmps,defers:=[]}:Act).put dst v=({tmps:=a.tmps,defers:=[]}:Act).put dst v'):a.put dst v=a.put dst v':=by
 cases dst with
 | none=>rfl
 | some d=>
   have:=congrArg Act.tmps h;simp only [Act.put]at this ⊢;rw [this]
theorem S1{ro:Option Nat}{n:Nat}{P:Program}{o:Oper}{a:Act}{w:World}{K:Value→Aa→Prop}(h:LO P o {tmps:=a.tmps,defers:=[]} w K)(hd:∀c,o.op≠ .defer c)(Q:Exit→Act→World→Prop):
  o.wpIn (FW ro) n P a w (fun a' w'=>∃v,a'=a.put o.dst v∧Env w w'∧K v w'.heap) Q:=by
 refine⟨fun _ _=>trivial,?_⟩;rw [Oper.semAt_eq _ _ _ hd];have h1:=h (fun e _ w=>Q e a w);unfold Oper.wp at h1;have ev:({tmps:=a.tmps,defers:=[]}:Act).eval=a.eval:=by funext x;cases x<;>rfl
 rw [ev]at h1;revert h1;generalize (execOp a.eval o).run P w=r;intro h1;cases r with
 | ok nx w'=>
   cases nx with
   | value v=>
     obtain⟨v',e,h2,h3⟩:=h1;exact⟨v',Io e,h2,h3⟩
   | skip=>
     obtain⟨v',e,h2,h3⟩:=h1;exact⟨v',Io e,h2,h3⟩
   | defer d=>
     obtain⟨v',e,h2,h3⟩:=h1;have:=congrArg Act.defers e;cases hdst:o.dst<;>rw [hdst]at this<;>simp [Act.put]at this
   | enter f args=>
     refine⟨(fun h=>by cases h),PJ (Calls.mono h1 ?_)⟩;intro e w'' h2;cases e with
     | returned v=>
       obtain⟨v',e,h3,h4⟩:=h2;exact⟨v',Io e,h3,h4⟩
     | panicked c=>exact h2
     | outgrown=>obtain⟨_,w,h3⟩:=h2;exact⟨a,w,h3⟩
   | row row args=>
     refine⟨(fun h=>by cases h),Uk (Rows.mono h1 ?_)⟩;intro v w'' h2;obtain⟨v',e,h3,h4⟩:=h2;exact⟨v',Io e,h3,h4⟩
   | _=>exact h1.elim
 | halt s w'=>
   cases s<;>first | exact h1 | exact h1.elim
theorem OY{F:Fence}{n:Nat}{P:Program}{o:Oper}{a:Act}{w:World}{N N':Act→World→Prop}{Q:Exit→Act→World→Prop}(hn:∀a w,N a w→N' a w)(h:o.wpIn F n P a w N Q):o.wpIn F n P a w N' Q:=by
 refine⟨h.1,?_⟩;have h1:=h.2;revert h1;generalize (o.semAt F.round a.eval).run P w=r;intro h1;cases r with
 | ok nx w'=>
   cases nx with
   | value v=>exact hn _ _ h1
   | skip=>exact hn _ _ h1
   | defer d=>exact hn _ _ h1
   | enter f args=>
     refine⟨h1.1,h1.2.1,fun cs hr=>?_⟩;obtain⟨e,w'',fr,h2,h3⟩:=h1.2.2 cs hr;refine⟨e,w'',fr,?_,h3⟩;cases e with
     | returned v=>exact hn _ _ h2
     | panicked c=>exact h2
     | outgrown=>exact h2
   | row row args=>exact⟨h1.1,h1.2.mono fun v w'' h2=>hn _ _ h2⟩
   | round l f tmps assign body=>
     refine⟨h1.1,h1.2.mono fun e w'' h2=>?_⟩;cases e with
     | returned v=>exact hn _ _ h2
     | panicked c=>exact h2
     | outgrown=>exact h2
   | _=>exact h1.elim
 | halt s w'=>
   cases s<;>first | exact h1 | exact h1.elim
structure E0(P:Program)(l:Nat)(args:Array Value)(H:Aa)(K:Value→Aa→Prop):Prop where
 in_::
 out_:∀w:World,w.heap=H→∃f tmps assign body,(Instr.yield l args).run P w= .ok (.round l f tmps assign body) w∧RoundIn (FW none) 0 P l f tmps assign body w fun e w'=>∃v,e= .returned v∧Env w w'∧K v w'.heap
def yK(P:Program)(o:Oper)(fr:Fr)(H:Aa)(K:Value→Aa→Prop):Prop:=
 match o.op with
 | .call {callee:=.value f,args, .. }=>evK fr f fun g=>match g with
   | .func (.yield l) first cap=>FM fr args.toList fun vs=>E0 P l (first.toList++vs).toArray H K
   | _=>opK P false (fun _=>True) o fr H K
 | .defer _=>False
 | _=>opK P false (fun _=>True) o fr H K
theorem E0.out{P:Program}{l:Nat}{args:Array Value}{H:Aa}{K:Value→Aa→Prop}(h:E0 P l args H K):
  ∀w:World,w.heap=H→∃f tmps assign body,(Instr.yield l args).run P w= .ok (.round l f tmps assign body) w∧RoundIn (FW none) 0 P l f tmps assign body w fun e w'=>∃v,e= .returned v∧Env w w'∧K v w'.heap:=by exact h.out_
theorem QZ{ro:Option Nat}{n:Nat}{P:Program}{o:Oper}{ds:List Nat}{fr:Fr}{a:Act}{w:World}{K:Value→Aa→Prop}(hat:AtD ds fr a)(h:yK P o fr w.heap K)(Q:Exit→Act→World→Prop):
  o.wpIn (FW ro) n P a w (fun a' w'=>∃v,a'=a.put o.dst v∧Env w w'∧K v w'.heap) Q:=by
 unfold yK at h;split at h
 ·rename_i f args argTypes ho;rw [FL]at h;split at h
  ·rename_i l first cap hg
   rw [FN,←Array.toList_map]at h;refine⟨fun _ _=>trivial,?_⟩;rw [Oper.semAt_eq _ _ _ (fun c e=>by rw [ho]at e;cases e)];obtain⟨fn,tmps,assign,body,hy,hrnd⟩:=h.out w rfl;have e:(first.toList++(Array.map (evF fr) args).toList).toArray=first++Array.map (evF fr) args:=Array.ext' (by simp)
   have h3:(execOp a.eval o).run P w= .ok (.round l fn tmps assign body) w:=by
    rw [hat.evalF,←hy,e];simp only [execOp,ho,resolve,hg,Deferred.ofValue];simp [invoke,callFunc]
   rw [h3];refine⟨(fun h=>by cases h),(Q7 hrnd).mono ?_⟩;rintro e w' ⟨v,rfl,henv,hk⟩;exact⟨v,rfl,henv,hk⟩
  ·exact S1 (Co hat.bare h) (fun c e=>by rw [ho]at e;cases e) Q
 ·exact h.elim
 ·rename_i h1 h2;exact S1 (Co hat.bare h) (fun c e=>h2 c e) Q
def Lv(P:Program)(o:Oper)(want:Bool)(t:Nat)(fr:Fr)(H:Aa)(K:Fr→Aa→Prop):Prop:=
 rdK fr t fun v=>match v with
  | .bool b=>AQ b
    (wrK fr t (.bool true) fun fr1=>match want with
     | true=>yK P o fr1 H fun v H'=>Cj o.dst fr1 v fun fr'=>apK K fr' H'
     | false=>Cj o.dst fr1 undef fun fr'=>apK K fr' H)
    (wrK fr t (.bool false) fun fr1=>match want with
     | false=>yK P o fr1 H fun v H'=>Cj o.dst fr1 v fun fr'=>apK K fr' H'
     | true=>Cj o.dst fr1 undef fun fr'=>apK K fr' H)
  | .tuple _=>Cj o.dst fr undef fun fr'=>apK K fr' H
  | _=>False
def II(P:Program)(all:List Oper)(l:List Oper):Fr→Aa→(Fr→Aa→Prop)→Prop:=
 List.rec (motive:=fun _=>Fr→Aa→(Fr→Aa→Prop)→Prop) (fun fr H K=>K fr H) (fun o _ ih fr H K=>
  match o.guard with
  | none=>yK P o fr H fun v H'=>Cj o.dst fr v fun fr'=>ih fr' H' K
  | some (j,want)=>match(all[j]?).bind (·.dst)with
    | none=>False
    | some t=>Lv P o want t fr H fun fr' H'=>ih fr' H' K) l
theorem Ny(P:Program)(all rest:List Oper)(o:Oper)(fr:Fr)(H:Aa)(K:Fr→Aa→Prop):II P all (o::rest) fr H K=
  (match o.guard with
  | none=>yK P o fr H fun v H'=>Cj o.dst fr v fun fr'=>II P all rest fr' H' K
  | some (j,want)=>match(all[j]?).bind (·.dst)with
    | none=>False
    | some t=>Lv P o want t fr H fun fr' H'=>II P all rest fr' H' K):=rfl
theorem GF{ro:Option Nat}{n:Nat}{P:Program}{ds:List Nat}{all:List Oper}{Q:Exit→Act→World→Prop}:∀(l:List Oper) (fr:Fr) (a:Act) (w:World) (K:Fr→Aa→Prop),AtD ds fr a→
  (∀fr' a' w',AtD ds fr' a'→Env w w'→K fr' w'.heap→Q .normal a' w')→II P all l fr w.heap K→wpListIn (FW ro) n P all.toArray Q l a w
 | [],fr,a,w,K,hat,hq,h=>hq fr a w hat (Env.refl w) h
 | o::l,fr,a,w,K,hat,hq,h=>by
   have go:∀(want:Bool),(want=true→yK P o fr w.heap fun v H'=>Cj o.dst fr v fun fr'=>II P all l fr' H' K)→
     (want=false→Cj o.dst fr undef fun fr'=>II P all l fr' w.heap K)→
     Region.wanted o (yielded all.toArray a.tmps)=want→wpListIn (FW ro) n P all.toArray Q (o::l) a w:=by
    intro want h1 h2 hw;unfold wpListIn;rw [hw];cases want with
    | true=>
      rw [if_pos rfl];refine OY ?_ (QZ hat (h1 rfl) Q);rintro a' w' ⟨v,rfl,henv,hk⟩;rw [BF]at hk;exact GF l _ _ _ K (hat.put o.dst v) (fun fr' a' w'' h1 h2 h3=>hq fr' a' w'' h1 (henv.trans h2) h3) hk
    | false=>
      rw [if_neg Vn];have h3:=h2 rfl;rw [BF]at h3;exact⟨fun _ _=>trivial,GF l _ _ _ K (hat.put o.dst undef) hq h3⟩
   rw [Ny]at h;split at h
   ·rename_i hg;exact go true (fun _=>h) (fun h=>by cases h) (by simp [Region.wanted,hg])
   ·rename_i j want hg;split at h
    ·exact h.elim
    ·rename_i t ht;unfold Lv at h;simp only [apK]at h;rw [CF]at h;split at h
     ·rename_i b hb;have hy:=Fc hat.bare ht hb;have hs:fr.set t (.bool b)=fr:=Cs hb (by simp [undef]);cases b<;>cases want<;>simp only [AQ,D6,hs]at h
      ·exact go true (fun _=>h) (fun h=>by cases h) (by simp [Region.wanted,hg,hy])
      ·exact go false (fun h=>by cases h) (fun _=>h) (by simp [Region.wanted,hg,hy])
      ·exact go false (fun h=>by cases h) (fun _=>h) (by simp [Region.wanted,hg,hy])
      ·exact go true (fun _=>h) (fun h=>by cases h) (by simp [Region.wanted,hg,hy])
     ·rename_i vs hb;exact go false (fun h=>by cases h) (fun _=>h) (by simp [Region.wanted,hg,Fd hat.bare ht hb])
     ·exact h.elim
abbrev KD:=Fr→List Nat→Aa→Prop
def D7(w0:World)(Q:Exit→Fr→List Nat→Aa→Prop):Exit→Act→World→Prop
 | .panic _,_,_=>False
 | .outgrown,_,_=>False
 | e,a,w=>∃fr ds,AtD ds fr a∧Env w0 w∧Q e fr ds w.heap
def Le(X:List (Nat×KD))(id:Nat)(fr:Fr)(ds:List Nat)(H:Aa):Prop:=
 match X with
 | []=>False
 | (j,k)::X=>match Nat.beq j id with
   | true=>k fr ds H
   | false=>Le X id fr ds H
def QxD(kn:KD)(X:List (Nat×KD))(kr:KD)(e:Exit)(fr:Fr)(ds:List Nat)(H:Aa):Prop:=
 match e with
 | .normal=>kn fr ds H
 | .exit id=>Le X id fr ds H
 | .ret=>kr fr ds H
 | _=>False
structure Iw(P:Program)(ro:Option Nat)(c:Code)(fr:Fr)(ds:List Nat)(H:Aa)(X:List (Nat×KD))(kr:KD):Prop where
 in_::
 out_:∀(n:Nat) (a:Act) (w:World),AtD ds fr a→w.heap=H→(Code.loop c).wpIn (FW ro) n P (D7 w (QxD (fun _ _ _=>False) X kr)) a w
structure VRF(P:Program)(g:Operand)(ps:Array Tmp)(assign body:Code)(fr:Fr)(ds:List Nat)(H:Aa)(kn:KD)(X:List (Nat×KD))(kr:KD):Prop where
 in_::
 out_:∀(n:Nat) (a:Act) (w:World),AtD ds fr a→w.heap=H→(Code.rangeFunc g ps assign body).wpIn (FW none) n P (D7 w (QxD kn X kr)) a w
def vcI(P:Program)(ro:Option Nat)(c:Code):Fr→List Nat→Aa→KD→List (Nat×KD)→KD→Prop:=
 Code.rec (motive:=fun _=>Fr→List Nat→Aa→KD→List (Nat×KD)→KD→Prop)
  (fun fr ds H kn _ _=>kn fr ds H)
  (fun _ ops draw fr ds H kn _ _=>match draw with
   | false=>II P ops.toList ops.toList fr H fun fr' H'=>kn fr' ds H'
   | true=>False)
  (fun _ _ iha ihb fr ds H kn X kr=>iha fr ds H (fun fr' ds' H'=>ihb fr' ds' H' kn X kr) X kr)
  (fun c _ _ ihx ihy fr ds H kn X kr=>match c with
   | .tmp t=>rdK fr t fun v=>match v with
     | .bool b=>AQ b (wrK fr t (.bool true) fun fr1=>ihx fr1 ds H kn X kr) (wrK fr t (.bool false) fun fr1=>ihy fr1 ds H kn X kr)
     | _=>False
   | _=>False)
  (fun id _ ih fr ds H kn X kr=>ih fr ds H kn ((id,kn)::X) kr)
  (fun c _ fr ds H _ X kr=>Iw P ro c fr ds H X kr)
  (fun g ps a b _ _ fr ds H kn X kr=>match ro with
   | none=>VRF P g ps a b fr ds H kn X kr
   | some _=>False)
  (fun id fr ds H _ X _=>Le X id fr ds H)
  (fun _ _ _ _ _ _ _ _=>False)
  (fun _ _ _ _ _ _ _=>False)
  (fun _ _ _ _ _ _ _=>False)
  (fun fr ds H _ _ kr=>kr fr ds H)
  (fun _ _ _ _ _ _ _=>False) c
section
variable(P:Program)(ro:Option Nat)(a b:Code)(fr:Fr)(ds:List Nat)(H:Aa)(kn:KD)(X:List (Nat×KD))(kr:KD)
theorem NG(id:Nat)(ops:Array Oper)(draw:Bool):vcI P ro (.region id ops draw) fr ds H kn X kr=(match draw with
   | false=>II P ops.toList ops.toList fr H fun fr' H'=>kn fr' ds H'
   | true=>False):=rfl
theorem RV:vcI P ro (.seq a b) fr ds H kn X kr=vcI P ro a fr ds H (fun fr' ds' H'=>vcI P ro b fr' ds' H' kn X kr) X kr:=rfl
theorem QQ(c:Operand):vcI P ro (.cond c a b) fr ds H kn X kr=(match c with
   | .tmp t=>rdK fr t fun v=>match v with
     | .bool x=>AQ x (wrK fr t (.bool true) fun fr1=>vcI P ro a fr1 ds H kn X kr) (wrK fr t (.bool false) fun fr1=>vcI P ro b fr1 ds H kn X kr)
     | _=>False
   | _=>False):=rfl
theorem Ps(id:Nat):vcI P ro (.block id a) fr ds H kn X kr=vcI P ro a fr ds H kn ((id,kn)::X) kr:=rfl
theorem Pt(g:Operand)(ps:Array Tmp):vcI P ro (.rangeFunc g ps a b) fr ds H kn X kr=(match ro with
   | none=>VRF P g ps a b fr ds H kn X kr
   | some _=>False):=rfl
end
theorem Iw.out{P:Program}{ro:Option Nat}{c:Code}{fr:Fr}{ds:List Nat}{H:Aa}{X:List (Nat×KD)}{kr:KD}(h:Iw P ro c fr ds H X kr):
  ∀(n:Nat) (a:Act) (w:World),AtD ds fr a→w.heap=H→(Code.loop c).wpIn (FW ro) n P (D7 w (QxD (fun _ _ _=>False) X kr)) a w:=by exact h.out_
theorem VRF.out{P:Program}{g:Operand}{ps:Array Tmp}{assign body:Code}{fr:Fr}{ds:List Nat}{H:Aa}{kn:KD}{X:List (Nat×KD)}{kr:KD}(h:VRF P g ps assign body fr ds H kn X kr):
  ∀(n:Nat) (a:Act) (w:World),AtD ds fr a→w.heap=H→(Code.rangeFunc g ps assign body).wpIn (FW none) n P (D7 w (QxD kn X kr)) a w:=by exact h.out_
theorem D7.env{w0 w1:World}{Q:Exit→Fr→List Nat→Aa→Prop}(henv:Env w0 w1):∀{e:Exit} {a:Act} {w:World},D7 w1 Q e a w→D7 w0 Q e a w
 | .normal,_,_,⟨fr,ds,h1,h2,h3⟩ | .exit _,_,_,⟨fr,ds,h1,h2,h3⟩ | .goto _,_,_,⟨fr,ds,h1,h2,h3⟩ | .ret,_,_,⟨fr,ds,h1,h2,h3⟩=>⟨fr,ds,h1,henv.trans h2,h3⟩
theorem D7.mono{w0:World}{Q Q':Exit→Fr→List Nat→Aa→Prop}(hq:∀e fr ds H,Q e fr ds H→Q' e fr ds H):∀{e:Exit} {a:Act} {w:World},D7 w0 Q e a w→D7 w0 Q' e a w
 | .normal,_,_,⟨fr,ds,h1,h2,h3⟩ | .exit _,_,_,⟨fr,ds,h1,h2,h3⟩ | .goto _,_,_,⟨fr,ds,h1,h2,h3⟩ | .ret,_,_,⟨fr,ds,h1,h2,h3⟩=>⟨fr,ds,h1,h2,hq _ _ _ _ h3⟩
theorem Pq{P:Program}{ro:Option Nat}{n:Nat}{x y:Code}{kn k1:KD}{X:List (Nat×KD)}{kr:KD}{a:Act}{w:World}
  (hx:x.wpIn (FW ro) n P (D7 w (QxD k1 X kr)) a w)
  (hy:∀fr ds a' w',AtD ds fr a'→Env w w'→k1 fr ds w'.heap→y.wpIn (FW ro) n P (D7 w' (QxD kn X kr)) a' w'):(Code.seq x y).wpIn (FW ro) n P (D7 w (QxD kn X kr)) a w:=by
 refine wpIn_seq (Code.wpIn_mono ?_ hx);intro e a' w' h;cases e with
 | normal=>
   obtain⟨fr,ds,h1,h2,h3⟩:=h;exact Code.wpIn_mono (fun e a w h=>D7.env h2 h) (hy fr ds a' w' h1 h2 h3)
 | exit id=>exact h
 | goto l=>exact h
 | ret=>exact h
 | panic c=>exact h
 | outgrown=>exact h
theorem Dj{P:Program}{ro:Option Nat}{n:Nat}:∀(c:Code) (fr:Fr) (ds:List Nat) (kn:KD) (X:List (Nat×KD)) (kr:KD) (a:Act) (w:World),AtD ds fr a→
  vcI P ro c fr ds w.heap kn X kr→c.wpIn (FW ro) n P (D7 w (QxD kn X kr)) a w
 | .skip,fr,ds,kn,X,kr,a,w,hat,h=>wpIn_skip ⟨fr,ds,hat,Env.refl w,h⟩
 | .region id ops draw,fr,ds,kn,X,kr,a,w,hat,h=>by
   rw [NG]at h;cases draw with
   | false=>
     have:=wpIn_region_lit (id:=id) (GF (ro:=ro) (n:=n) (all:=ops.toList) (Q:=D7 w (QxD kn X kr)) ops.toList fr a w _ hat (fun fr' a' w' h1 h2 h3=>⟨fr',ds,h1,h2,h3⟩) h);simpa using this
   | true=>exact h.elim
 | .seq x y,fr,ds,kn,X,kr,a,w,hat,h=>by
   rw [RV]at h;exact Pq (Dj x fr ds _ X kr a w hat h) fun fr' ds' a' w' h1 _ h3=>Dj y fr' ds' kn X kr a' w' h1 h3
 | .cond c x y,fr,ds,kn,X,kr,a,w,hat,h=>by
   rw [QQ]at h;split at h
   ·rename_i t;rw [CF]at h;split at h
    ·rename_i b hb;have hs:fr.set t (.bool b)=fr:=Cs hb (by simp [undef]);have he:a.eval (.tmp t)= .bool b:=by rw [hat.evalF];exact hb
     cases b<;>simp only [AQ,D6,hs]at h
     ·exact wpIn_cond_false he (Dj y fr ds kn X kr a w hat h)
     ·exact wpIn_cond_true he (Dj x fr ds kn X kr a w hat h)
    ·exact h.elim
   ·exact h.elim
 | .block id c,fr,ds,kn,X,kr,a,w,hat,h=>by
   rw [Ps]at h;refine wpIn_block (Code.wpIn_mono ?_ (Dj c fr ds kn _ kr a w hat h));intro e a' w' h;cases e with
   | exit id'=>
     obtain⟨fr',ds',h1,h2,h3⟩:=h;simp only [QxD,Le]at h3;simp only [Exit.inBlock];split at h3
     ·rename_i hid;have:=Nat.eq_of_beq_eq_true hid;rw [if_pos this.symm];exact⟨fr',ds',h1,h2,h3⟩
     ·rename_i hid;have:id≠id':=Nat.ne_of_beq_eq_false hid;rw [if_neg (Ne.symm this)];exact⟨fr',ds',h1,h2,h3⟩
   | normal=>exact h
   | goto l=>exact h
   | ret=>exact h
   | panic c=>exact h
   | outgrown=>exact h
 | .loop c,fr,ds,kn,X,kr,a,w,hat,h=>Code.wpIn_mono (fun e a w=>D7.mono fun e fr ds H hq=>by
   cases e<;>first | exact hq | exact hq.elim) (h.out n a w hat rfl)
 | .exit id,fr,ds,kn,X,kr,a,w,hat,h=>wpIn_exit ⟨fr,ds,hat,Env.refl w,h⟩
 | .ret,fr,ds,kn,X,kr,a,w,hat,h=>wpIn_ret ⟨fr,ds,hat,Env.refl w,h⟩
 | .rangeFunc g ps x y,fr,ds,kn,X,kr,a,w,hat,h=>by
   rw [Pt]at h;cases ro with
   | none=>exact h.out n a w hat rfl
   | some l=>exact h.elim
 | .scope _,_,_,_,_,_,_,_,_,h=>h.elim
 | .label _,_,_,_,_,_,_,_,_,h=>h.elim
 | .goto _,_,_,_,_,_,_,_,_,h=>h.elim
 | .refuse _,_,_,_,_,_,_,_,_,h=>h.elim
theorem Kp{P:Program}{ro:Option Nat}{n:Nat}{c:Code}{Q:Exit→Act→World→Prop}(J:Nat→Act→World→Prop)
  (round:∀m a w,J m a w→c.wpIn (FW ro) n P (Exit.then (fun a' w'=>∃m',m'<m∧J m' a' w') Q) a w):∀m a w,J m a w→(Code.loop c).wpIn (FW ro) n P Q a w:=by
 intro m0 a0 w0 h0 b k cs hro hb hr;have key:∀m a w,J m a w→∃e a' w',Q e a' w'∧ArrivesIn (Machine.fenced P (FW ro)) P (lone (b.atR a (.code c:: .inLoop c::k)) cs w) b k cs e a' w':=by
  intro m
  induction m using Nat.strongRecOn with
  | _ m ih=>
    intro a w hI;obtain⟨e,a₁,w₁,hq,harr⟩:=round m a w hI b (.inLoop c::k) cs hro hb hr;cases e with
    | normal=>
      obtain⟨m',hlt,hI₁⟩:=hq;obtain⟨e₂,a₂,w₂,hq₂,harr₂⟩:=ih m' hlt a₁ w₁ hI₁;exact⟨e₂,a₂,w₂,hq₂,.of_steps (StepsIn.trans harr (.one (fenced_calm hb hr rfl) stepR_inLoop)) harr₂⟩
    | exit id=>exact⟨_,a₁,w₁,hq,.pass (x:=.inLoop c) rfl (fun _ _=>.inl (by simp)) harr⟩
    | goto l=>exact⟨_,a₁,w₁,hq,.pass (x:=.inLoop c) rfl (fun _ _=>.inl (by simp)) harr⟩
    | ret=>exact⟨_,a₁,w₁,hq,.pass (x:=.inLoop c) rfl (fun _ _=>.inl (by simp)) harr⟩
    | panic ch=>exact⟨_,a₁,w₁,hq,.pass (x:=.inLoop c) rfl (fun _ _=>.inl (by simp)) harr⟩
    | outgrown=>exact⟨_,a₁,w₁,hq,.pass (x:=.inLoop c) rfl (fun _ _=>.inl (by simp)) harr⟩
 obtain⟨e,a',w',hq,harr⟩:=key m0 a0 w0 h0;exact⟨e,a',w',hq,.of_steps (.one (fenced_calm hb hr rfl) stepR_loop) harr⟩
theorem Iw.mk{P:Program}{ro:Option Nat}{c:Code}{fr:Fr}{ds:List Nat}{H:Aa}{X:List (Nat×KD)}{kr:KD}{α:Type}(ts:List Nat)(enc:α→List Value)(I:α→List Nat→Aa→Prop)(m:α→Aa→Nat)
  (h0:IX fr ts fun vs=>∃x,vs=enc x∧I x ds H)
  (hr:∀(x:α) (ds1:List Nat) (H1:Aa) (junk:Nat→Value),I x ds1 H1→ET junk fr (E4 c []) fun fr0=>LK fr0 ts (enc x) fun fr1=>
   vcI P ro c fr1 ds1 H1 (fun fr' ds' H'=>Fl (E4 c []) fr fr' (IX fr' ts fun vs=>∃y,vs=enc y∧I y ds' H'∧m y H'<m x H1)) X kr):Iw P ro c fr ds H X kr:=by
 generalize E4 c []=ws at hr;refine⟨?_⟩;intro n a w hat hw;subst hw;have h0':=h0;rw [DM]at h0';obtain⟨x0,hx0,hi0⟩:=h0'
 let J (k:Nat) (a':Act) (w':World):Prop:=∃fr' ds' x,AtD ds' fr' a'∧Env w w'∧En (fun _=>undef) fr' ws=En (fun _=>undef) fr ws∧ts.map (rd fr')=enc x∧I x ds' w'.heap∧m x w'.heap=k
 refine Kp J ?_ _ a w ⟨fr,ds,x0,hat,Env.refl w,rfl,hx0,hi0,rfl⟩;rintro k a1 w1 ⟨fr1,ds1,x1,hat1,henv1,hk1,hx1,hi1,rfl⟩;have h:=hr x1 ds1 w1.heap (rd fr1) hi1;rw [BK,Fs,Cd hk1,←hx1,Ey ts fr1]at h;refine Code.wpIn_mono ?_ (Dj c fr1 ds1 _ X kr a1 w1 hat1 h);intro e a2 w2 h2;cases e with
 | normal=>
   obtain⟨fr2,ds2,hat2,henv2,h2⟩:=h2;simp only [QxD,Fl,BK,DM]at h2;obtain⟨hk2,y,hy,hiy,hm⟩:=h2;exact⟨m y w2.heap,hm,fr2,ds2,y,hat2,henv1.trans henv2,hk2,hy,hiy,rfl⟩
 | exit id=>exact D7.env henv1 h2
 | goto l=>exact D7.env henv1 h2
 | ret=>exact D7.env henv1 h2
 | panic c=>exact h2
 | outgrown=>exact h2
structure MX(P:Program)(rs:List ResultVar)(R:Value→Aa→Prop)(fr:Fr)(ds:List Nat)(H:Aa):Prop where
 in_::
 nd:ds.Nodup
 open_:∀D∈ds,H[D]? =some (.deferred (some []))
 res:∀H',Agr (fun k=>k∉ds) H H'→H'.size=H.size→Iq P rs fr H' R
theorem MX.nil{P:Program}{rs:List ResultVar}{R:Value→Aa→Prop}{fr:Fr}{H:Aa}(h:Iq P rs fr H R):MX P rs R fr [] H:=
 ⟨List.Pairwise.nil,(fun _ h=>by cases h),fun H' ha _=>by rw [NN (ha.mono fun k _=>by simp)];exact h⟩
theorem Ix(w:World)(r:Nat)(o:Obj):Env w (w.putObj r o):=⟨rfl,rfl,rfl⟩
theorem TW:FW none=Fence.wide:=rfl
theorem Ie{P:Program}{fn:Func}{tmps:Array Value}{R:Ending→World→Prop}:∀(ds:List Nat) (w:World),ds.Nodup→(∀D∈ds,w.heap[D]? =some (.deferred (some [])))→
  (∀w',Env w w'→Agr (fun k=>k∉ds) w.heap w'.heap→w'.heap.size=w.heap.size→∃v,(results fn tmps).run P w'= .ok v w'∧R (.returned v) w')→LeavesInM (FW none) 0 P fn tmps R (Sx ds) .returning w
 | [],w,_,_,h=>by
   obtain⟨v,h1,h2⟩:=h w (Env.refl w) (Agr.refl _ _) rfl;exact⟨v,h1,h2⟩
 | D::ds,w,hn,ho,h=>by
   obtain⟨hn1,hn2⟩:=Vt.1 hn;have hD:=ho D (by simp);have hlt:=(Vd.1 hD).1;have ha:Agr (fun k=>k≠D) w.heap (w.putObj D (.deferred none)).heap:=fun k hk=>World.putObj_heap_other hk;refine⟨by simp,.inl ⟨D,w.putObj D (.deferred none),rfl,run_takeDeferred hD,Ie ds _ hn2 (fun E hE=>?_) fun w' h1 h2 h3=>?_⟩⟩
   ·rw [World.putObj_heap_other (by rintro rfl;exact hn1 hE)];exact ho E (by simp [hE])
   ·refine h w' ((Ix w D _).trans h1) ((ha.mono fun k hk=>?_).trans (h2.mono fun k hk=>?_)) (by rw [h3];simp)
    ·intro e;exact hk (by simp [e])
    ·intro e;exact hk (by simp [e])
theorem Ao.of_vcI{P:Program}{f:FuncId}{fn:Func}{c:Code}{args:Array Value}{H:Aa}{R:Value→Aa→Prop}(hf:P.funcs[f]? =some fn)(hb:fn.body=some c)
  (hcall:∀w:World,(callFunc f args).run P w= .ok (.enter f args) w)
  (h:GD (args.toList++Vw (fn.ntmps - args.size) undef) fun fr=>vcI P none c fr [] H (MX P fn.results.toList R) [] (MX P fn.results.toList R)):
  Ao P f args H R:=by
 intro w hw;subst hw;refine⟨hcall w,?_⟩;refine(callsIn_wide (n:=0)).1 ?_;rw [←TW];refine callsIn_of_wp_marks (F:=FW none) (n:=0) hf hb trivial ?_;rw [DH]at h;have hat:AtD [] (args.toList++Vw (fn.ntmps - args.size) undef) {tmps:=args++Array.replicate (fn.ntmps - args.size) undef,defers:=[]}:=⟨by simp,rfl⟩;refine Code.wpIn_mono ?_ (Dj c _ _ _ _ _ _ w hat h);intro e a' w' h2;have fin:∀fr ds,AtD ds fr a'→Env w w'→MX P fn.results.toList R fr ds w'.heap→LeavesInM (FW none) 0 P fn a'.tmps (fun e w''=>∃v,e= .returned v∧Env w w''∧R v w''.heap) a'.defers .returning w':=by
  intro fr ds h1 h2 h3;rw [h1.defers];refine Ie ds w' h3.nd h3.open_ fun w'' h4 h5 h6=>?_;obtain⟨v,hv,hR⟩:=FV h1.bare (h3.res w''.heap h5 h6);exact⟨v,hv,v,rfl,h2.trans h4,hR⟩
 cases e with
 | normal=>obtain⟨fr,ds,h1,h2,h3⟩:=h2;exact fin fr ds h1 h2 h3
 | ret=>obtain⟨fr,ds,h1,h2,h3⟩:=h2;exact fin fr ds h1 h2 h3
 | exit id=>obtain⟨fr,ds,h1,h2,h3⟩:=h2;exact h3.elim
 | goto l=>obtain⟨fr,ds,h1,h2,h3⟩:=h2;exact h3.elim
 | panic c=>exact h2.elim
 | outgrown=>exact h2.elim
theorem VRF.mk{P:Program}{g:Operand}{ps:Array Tmp}{assign body:Code}{fr:Fr}{ds:List Nat}{H:Aa}{kn:KD}{X:List (Nat×KD)}{kr:KD}(gf:Nat)(lb:Array Value)(hg:evF fr g= .func (.func gf) #[] lb)
  (h:∀(rec:LoopState→Option Code→Loop),(∃fn,rec=fun st pe=>{state:=st,pending:=pe,fn:=fn,tmps:=fr.toArray,params:=ps,assign:=assign,body:=body,defers:=H.size})→
   Ao P gf (#[.func (.yield (H.size+1)) #[] #[]]++lb) ((H.push (.deferred (some []))).push (.loop (rec .ready none))) fun _ H2=>∃st pe,st≠ .busy∧H2[H.size+1]? =some (.loop (rec st pe))∧
    ((pe=none∧kn fr (H.size::ds) (H2.setIfInBounds (H.size+1) (.loop (rec .exhausted pe))))∨
      (pe=some .ret∧kr fr (H.size::ds) (H2.setIfInBounds (H.size+1) (.loop (rec .exhausted pe)))))):VRF P g ps assign body fr ds H kn X kr:=by
 refine⟨?_⟩;intro n a w hat hw;subst hw;refine wpIn_rangeFunc ?_;intro fn _;obtain⟨rec,hrec⟩:∃rec:LoopState→Option Code→Loop,rec=fun st pe=>{state:=st,pending:=pe,fn,tmps:=fr.toArray,params:=ps,assign,body,defers:=w.heap.size}:=⟨_,rfl⟩;have hk:=h rec ⟨fn,hrec⟩;have hta:a.tmps=fr.toArray:=by rw [←hat.tmps]
 obtain⟨W1,hW1⟩:∃W1,(w.alloc (.deferred (some []))).alloc (.loop (rec .ready none))=W1:=⟨_,rfl⟩;have hW1h:W1.heap=(w.heap.push (.deferred (some []))).push (.loop (rec .ready none)):=by rw [←hW1];rfl
 have hW1e:Env w W1:=by rw [←hW1];exact⟨rfl,rfl,rfl⟩
 obtain⟨hc1,hc2⟩:=hk W1 hW1h;refine⟨w.heap.size+1,[{target:=.collected w.heap.size,args:= #[]}],W1,{target:=.fn (.func gf) lb,args:= #[.func (.yield (w.heap.size+1)) #[] #[]]},W1,gf,
  #[.func (.yield (w.heap.size+1)) #[] #[]]++lb,W1,?_,?_,?_,?_,?_,?_⟩
 ·rw [←hW1,hrec,hta];exact run_enterLoop_outer _ _ _ _ _
 ·have hga:a.eval g= .func (.func gf) #[] lb:=by rw [hat.evalF];exact hg
  simp only [resolve,hga];simp [go_sem]
 ·exact fun _ _=>trivial
 ·have e1:(invoke (.fn (.func gf) lb) #[.func (.yield (w.heap.size+1)) #[] #[]]).run P W1=(callFunc gf (#[.func (.yield (w.heap.size+1)) #[] #[]]++lb)).run P W1:=by simp [invoke]
  exact e1.trans hc1
 ·intro h;cases h
 ·refine PJ (Calls.mono hc2 ?_);rintro e W2 ⟨v,rfl,henv2,st,pe,hst,hl,hpe⟩;refine⟨pe,W2.putObj (w.heap.size+1) (.loop {rec st pe with state:=.exhausted}),?_,?_⟩
  ·have:=run_endLoop (P:=P) hl (by rw [hrec];exact hst);rw [hrec]at this ⊢;exact this
  ·have hat2:AtD (w.heap.size::ds) fr {a with defers:=[{target:=.collected w.heap.size,args:= #[]}]++a.defers}:=⟨hat.tmps,by rw [hat.defers];rfl⟩;have he2:Env w (W2.putObj (w.heap.size+1) (.loop {rec st pe with state:=.exhausted})):=(hW1e.trans henv2).trans (Ix W2 _ _);have hrx:({rec st pe with state:=.exhausted}:Loop)=rec .exhausted pe:=by rw [hrec]
   have hhp:(W2.putObj (w.heap.size+1) (.loop {rec st pe with state:=.exhausted})).heap=W2.heap.setIfInBounds (w.heap.size+1) (.loop (rec .exhausted pe)):=by rw [hrx];rfl
   rcases hpe with⟨rfl,hpe⟩ | ⟨rfl,hpe⟩
   ·exact⟨fr,_,hat2,he2,by rw [hhp];exact hpe⟩
   ·exact wpIn_ret ⟨fr,_,hat2,he2,by rw [hhp];exact hpe⟩
theorem Mm:∀(l:List (Tmp×Value)) (t:Array Value),((l.foldl (fun t (x:Tmp×Value)=>t.setIfInBounds x.1 x.2) t)).toList=wrs t.toList (l.map (·.1)) (l.map (·.2))
 | [],t=>by cases t;rfl
 | (p,v)::l,t=>by
   rw [List.foldl_cons,Mm l];simp [wrs]
theorem E0.mk{P:Program}{l:Nat}{args:Array Value}{H:Aa}{K:Value→Aa→Prop}(r:Loop)(hr:H[l]? =some (.loop r))(hst:r.state= .ready)(hs:args.size=r.params.size)
  (h:GD (wrs r.tmps.toList r.params.toList args.toList) fun fr=>vcI P (some l) r.assign fr [] H (fun fr1 ds1 H1=>ds1=[]∧H1[l]? =some (.loop r)∧
   vcI P (some l) r.body fr1 [] (H1.setIfInBounds l (.loop {r with state:=.busy})) (fun _ _ H2=>H2[l]? =some (.loop {r with state:=.busy})∧K (.bool true) (H2.setIfInBounds l (.loop {r with state:=.ready,pending:=none}))) []
    (fun _ _ H2=>H2[l]? =some (.loop {r with state:=.busy})∧K (.bool false) (H2.setIfInBounds l (.loop {r with state:=.done,pending:=some .ret})))) [] (fun _ _ _=>False)):E0 P l args H K:=by
 refine⟨?_⟩;intro w hw;subst hw;rw [DH]at h;refine⟨_,_,_,_,run_yield hr hs,?_⟩;have hfold:((r.params.zip args).foldl (fun tmps (t,a)=>tmps.setIfInBounds t a) r.tmps).toList=wrs r.tmps.toList r.params.toList args.toList:=by
  rw [←Array.foldl_toList];have:=Mm (r.params.zip args).toList r.tmps;rw [Array.toList_zip]at this ⊢;rw [show(fun(tmps:Array Value) (x:Tmp×Value)=>tmps.setIfInBounds x.1 x.2)=(fun tmps (x:Tmp×Value)=>match x with | (t,a)=>tmps.setIfInBounds t a)from rfl]at this;rw [List.map_fst_zip (by simp [hs]),List.map_snd_zip (by simp [hs])]at this;exact this
 have hro:FW (some l)=(FW none).inRound l:=rfl;refine Q7 (ro:=none) (n:=0) (roundIn_of_wpIn (F:=FW none) trivial ?_);rw [←hro];have hat:AtD [] (wrs r.tmps.toList r.params.toList args.toList) {tmps:=(r.params.zip args).foldl (fun tmps (t,a)=>tmps.setIfInBounds t a) r.tmps,defers:=[]}:=⟨hfold,rfl⟩;refine Code.wpIn_mono ?_ (Dj r.assign _ [] _ [] _ _ w hat h);intro e a1 w1 h1;cases e with
 | normal=>
   obtain⟨fr1,ds1,hat1,henv1,rfl,hl1,h1⟩:=h1;refine⟨_,run_beginRound hl1 hst,?_⟩;have hb:=Dj (n:=0) r.body fr1 [] _ [] _ a1 (w1.putObj l (.loop {r with state:=.busy})) hat1 h1;refine Code.wpIn_mono ?_ hb;intro e a2 w2 h2;cases e with
   | normal=>
     obtain⟨fr2,ds2,hat2,henv2,hl2,hk2⟩:=h2;exact⟨_,_,run_endRound none hl2,_,rfl,(henv1.trans (Ix w1 l _)).trans (henv2.trans (Ix w2 l _)),hk2⟩
   | ret=>
     obtain⟨fr2,ds2,hat2,henv2,hl2,hk2⟩:=h2;exact⟨_,_,run_endRound (some .ret) hl2,_,rfl,(henv1.trans (Ix w1 l _)).trans (henv2.trans (Ix w2 l _)),hk2⟩
   | exit id=>obtain⟨_,_,_,_,h3⟩:=h2;exact h3.elim
   | goto l=>obtain⟨_,_,_,_,h3⟩:=h2;exact h3.elim
   | panic c=>exact h2.elim
   | outgrown=>exact h2.elim
 | exit id=>obtain⟨_,_,_,_,h3⟩:=h1;exact h3.elim
 | goto l=>obtain⟨_,_,_,_,h3⟩:=h1;exact h3.elim
 | ret=>obtain⟨_,_,_,_,h3⟩:=h1;exact h3.elim
 | panic c=>exact h1.elim
 | outgrown=>exact h1.elim
section
variable{B:Nat→Prop}{H0 H:Aa}{ps qs:List Pc}{p:Pc}
theorem StB.perm(st:StB B H0 H ps)(h:ps.Perm qs):StB B H0 H qs:=
 ⟨st.old,st.lt0,st.size,fun p hp=>st.oks p (h.mem_iff.2 hp),fun p hp=>st.rng p (h.mem_iff.2 hp),(h.pairwise_iff fun{x y} hxy k hk hk'=>hxy k hk' hk).1 st.dis⟩
theorem StB.sub(st:StB B H0 H ps)(h:qs.Sublist ps):StB B H0 H qs:=
 ⟨st.old,st.lt0,st.size,fun p hp=>st.oks p (h.subset hp),fun p hp=>st.rng p (h.subset hp),st.dis.sublist h⟩
def L5(qs:List Pc):Pc where
 foot k:=∃q∈qs,q.foot k
 ok H:=(∀q∈qs,q.ok H)∧qs.Pairwise Dis
 fr h hp:=⟨fun q hq=>q.fr (h.mono fun k hk=>⟨q,hq,hk⟩) (hp.1 q hq),hp.2⟩
theorem StB.open_(st:StB B H0 H ps)(i:Nat)(hp:ps[i]? =some (L5 qs)):StB (fun k=>k<H.size∧¬(L5 qs).foot k) H H qs:=by
 obtain⟨h1,h2⟩:=st.at_ i hp;exact⟨Agr.refl _ _,fun k hk=>hk.1,UO _,h1,fun q hq k hk=>⟨fun h=>h.2 ⟨q,hq,hk⟩,(st.in_ i hp ⟨q,hq,hk⟩).2⟩,h2⟩
theorem StB.close{H':Aa}{qs':List Pc}(st:StB B H0 H ps)(i:Nat)(hp:ps[i]? =some (L5 qs))(st':StB (fun k=>k<H.size∧¬(L5 qs).foot k) H H' qs'):StB B H0 H' (ps.set i (L5 qs')):=by
 refine st.upd i hp st'.old _ ⟨st'.oks,st'.dis⟩ (fun k hk=>?_) (fun k hk=>?_) st'.size
 ·obtain⟨q,hq,hk⟩:=hk;have:=(st'.rng q hq k hk).1;by_cases h1:k<H.size
  ·by_cases h2:(L5 qs).foot k
   ·exact .inl h2
   ·exact absurd ⟨h1,h2⟩ this
  ·exact .inr (by omega)
 ·obtain⟨q,hq,hk⟩:=hk;exact(st'.rng q hq k hk).2
theorem StB.bundle{rs:List Pc}(st:StB B H0 H (qs++rs)):StB B H0 H (L5 qs::rs):=by
 obtain⟨d1,d2,d3⟩:=Va.1 st.dis;refine⟨st.old,st.lt0,st.size,fun p hp=>?_,fun p hp k hk=>?_,Vo.2 ⟨fun r hr k hk hk'=>?_,d2⟩⟩
 ·rcases Vf.1 hp with rfl | hp
  ·exact⟨fun q hq=>st.oks q (UQ.2 (.inl hq)),d1⟩
  ·exact st.oks p (UQ.2 (.inr hp))
 ·rcases Vf.1 hp with rfl | hp
  ·obtain⟨q,hq,hk⟩:=hk;exact st.rng q (UQ.2 (.inl hq)) k hk
  ·exact st.rng p (UQ.2 (.inr hp)) k hk
 ·obtain⟨q,hq,hk⟩:=hk;exact d3 q hq r hr k hk hk'
theorem StB.unbundle{rs:List Pc}(st:StB B H0 H (L5 qs::rs)):StB B H0 H (qs++rs):=by
 obtain⟨d1,d2⟩:=Vo.1 st.dis;have h0:=st.oks _ (Ve ..);refine⟨st.old,st.lt0,st.size,fun p hp=>?_,fun p hp k hk=>?_,Va.2 ⟨h0.2,d2,fun q hq r hr k hk hk'=>d1 r hr k ⟨q,hq,hk⟩ hk'⟩⟩
 ·rcases UQ.1 hp with hp | hp
  ·exact h0.1 p hp
  ·exact st.oks p (Vf.2 (.inr hp))
 ·rcases UQ.1 hp with hp | hp
  ·exact st.rng _ (Ve ..) k ⟨p,hp,hk⟩
  ·exact st.rng p (Vf.2 (.inr hp)) k hk
end
section
variable{α:Type}{T:Ty α}{e:TypeId}{a:Option Addr}{n cap:Nat}{xs:List α}{B:Nat→Prop}{H0 H:Aa}{p1 p2:Pc}{rest:List Pc}
end
theorem E0.mk2{P:Program}{l:Nat}{args:Array Value}{H:Aa}{K:Value→Aa→Prop}(fn:FuncId)(tmps:Array Value)(ps:Array Tmp)(assign body:Code)(D:Nat)(rec:LoopState→Option Code→Loop)
  (hrec:rec=fun st pe=>{state:=st,pending:=pe,fn:=fn,tmps:=tmps,params:=ps,assign:=assign,body:=body,defers:=D}) (hr:H[l]? =some (.loop (rec .ready none))) (hs:args.size=ps.size)
  (h:GD (wrs tmps.toList ps.toList args.toList) fun fr=>vcI P (some l) assign fr [] H (fun fr1 ds1 H1=>ds1=[]∧H1[l]? =some (.loop (rec .ready none))∧
   vcI P (some l) body fr1 [] (H1.setIfInBounds l (.loop (rec .busy none))) (fun _ _ H2=>H2[l]? =some (.loop (rec .busy none))∧K (.bool true) (H2.setIfInBounds l (.loop (rec .ready none)))) []
    (fun _ _ H2=>H2[l]? =some (.loop (rec .busy none))∧K (.bool false) (H2.setIfInBounds l (.loop (rec .done (some .ret)))))) [] (fun _ _ _=>False)):E0 P l args H K:=by
 subst hrec;exact E0.mk _ hr rfl hs h
theorem LQ{P:Program}{l:Nat}{args:Array Value}{H:Aa}{K K':Value→Aa→Prop}(h:E0 P l args H K)(k:∀v H',K v H'→K' v H'):E0 P l args H K':=
 ⟨fun w hw=>by
  obtain⟨f,t,a,b,h1,h2⟩:=h.out w hw;exact⟨f,t,a,b,h1,h2.mono fun e w' ⟨v,h3,h4,h5⟩=>⟨v,h3,h4,k _ _ h5⟩⟩⟩
def pLp(L:Nat)(r:Loop):Pc:=⟨fun k=>k=L,fun H=>H[L]? =some (.loop r),fun h hp=>(h L rfl).trans hp⟩
def pDs(ds:List Nat):Pc:=⟨fun k=>k∈ds,fun H=>∀D∈ds,H[D]? =some (.deferred (some [])),fun h hp D hD=>(h D hD).trans (hp D hD)⟩
section
variable{B:Nat→Prop}{H0 H:Aa}{ps rest:List Pc}
theorem StB.lpSet{L:Nat}{r:Loop}(st:StB B H0 H ps)(i:Nat)(hp:ps[i]? =some (pLp L r))(r':Loop):StB B H0 (H.setIfInBounds L (.loop r')) (ps.set i (pLp L r')):=by
 have hl:H[L]? =some (.loop r):=st.at_ i hp;have hlt:=(Vd.1 hl).1;refine st.upd i hp (fun k hk=>?_) _ ?_ (fun k hk=>.inl hk) (fun k hk=>?_) (by simp)
 ·have:k≠L:=fun e=>hk.2 e;rw [Array.getElem?_setIfInBounds_ne (Ne.symm this)]
 ·show(H.setIfInBounds L _)[L]? =_;rw [Array.getElem?_setIfInBounds_self_of_lt hlt]
 ·have:k=L:=hk;subst this;simpa using hlt
theorem StB.push(st:StB B H0 H ps)(o:Obj)(p:Pc)(hf:∀k,p.foot k→k=H.size)(hok:p.ok (H.push o)):StB B H0 (H.push o) (ps++[p]):=
 st.add (Dx H o) p hok fun k hk=>by have:=hf k hk;subst this;simp
theorem StB.pushMark(st:StB B H0 H ps):StB B H0 (H.push (.deferred (some []))) (ps++[pDs [H.size]]):=
 st.push _ _ (fun k hk=>by simpa [pDs]using hk) (fun D hD=>by rw [UT]at hD;subst hD;simp)
theorem StB.pushLoop(st:StB B H0 H ps)(r:Loop):StB B H0 (H.push (.loop r)) (ps++[pLp H.size r]):=
 st.push _ _ (fun k hk=>hk) (by show(H.push _)[H.size]? =_;simp)
theorem StB.dsOff{ds:List Nat}{H':Aa}(st:StB B H0 H (pDs ds::rest))(ha:Agr (fun k=>k∉ds) H H')(hs:H'.size=H.size):StB B H0 H' rest:=by
 have:=st.upd 0 (p:=pDs ds) rfl (ha.mono fun k hk=>hk.2) ⟨fun _=>False,fun _=>True,fun _ _=>trivial⟩ trivial (fun k hk=>hk.elim) (fun k hk=>hk.elim) (by omega);exact this.sub (UW _ _)
theorem StB.pickN(st:StB B H0 H ps)(n:Nat)(is:List Nat)(hn:is.Nodup):StB B H0 H ((is.filterMap fun i=>(ps.take n)[i]?)++ps.drop n):=by
 have e:=List.take_append_drop n ps;rw [←e]at st;generalize ps.take n=qs at*;generalize ps.drop n=rs at*;obtain⟨d1,d2,d3⟩:=Va.1 st.dis;have st1:StB B H0 H qs:=st.sub (List.sublist_append_left _ _);have st2:=st1.pick is hn;have hm:∀q,q∈is.filterMap (fun i=>qs[i]?)→q∈qs:=fun q hq=>by
  obtain⟨i,-,hi⟩:=List.mem_filterMap.1 hq;exact Vb hi
 refine⟨st.old,st.lt0,st.size,fun q hq=>?_,fun q hq k hk=>?_,Va.2 ⟨st2.dis,d2,fun q hq r hr=>d3 q (hm q hq) r hr⟩⟩
 ·rcases UQ.1 hq with hq | hq
  ·exact st2.oks q hq
  ·exact st.oks q (UQ.2 (.inr hq))
 ·rcases UQ.1 hq with hq | hq
  ·exact st2.rng q hq k hk
  ·exact st.rng q (UQ.2 (.inr hq)) k hk
end
end Go.VC
namespace Go.Proofs.YtlnmhfhdjnenoaaGreatDoor
open Go.VC
abbrev kI:Int→Value:=Value.int .i64
theorem Hm:Kd Tryz.prog 3 (C4 (α:=Int)) kI:=Kd.ofE Tryz.underlying3 (U7 .i64)
theorem Ot:HR Tryz.prog 149 3 3 (.int .i64 0):=⟨rfl,rfl⟩
abbrev Dom(mm:Int→Option Value):Int→Prop:=fun q=>(mm q).isSome=true
abbrev tIk:Ty Int:=Kn .i64
def TB(l:Nat)(ok:Int→Prop)(Q:List Int→Pc→Prop):Prop:=
 ∀{B:Nat→Prop} {H0 H:Aa} {ps:List Pc} (st:StB B H0 H ps) (i:Nat) (p:Pc) (pre:List Int) (x:Int),ps[i]? =some p→Q pre p→pre.length<65536→ok x→
  E0 Tryz.prog l #[.int .i64 x] H fun v H'=>v= .bool true∧∃p',Q (pre++[x]) p'∧StB B H0 H' (ps.set i p')
theorem FQ:∀(n:Nat) (l:List Int),l.Nodup→(∀x∈l,0≤x∧x<(n:Int))→l.length≤n
 | 0,l,_,h=>by
   cases l with
   | nil=>exact UO _
   | cons x l=>have:=h x Ve;omega
 | n+1,l,hd,h=>by
   have h1:=FQ n (l.filter fun x=>decide (x<(n:Int))) (hd.filter _) (fun x hx=>by
    obtain⟨h1,h2⟩:=Vu.1 hx;exact⟨(h x h1).1,by simpa using h2⟩)
   have h2:l.length≤(l.filter fun x=>decide (x<(n:Int))).length+1:=by
    clear h1
    induction l with
    | nil=>simp
    | cons x l ih=>
      rw [Vt]at hd;by_cases hx:x<(n:Int)
      ·rw [US (by simpa using hx)];have:=ih hd.2 (fun y hy=>h y (Vl _ hy));simp only [UM];omega
      ·rw [UU (by simpa using hx)];have hxn:x=(n:Int):=by have:=h x Ve;omega
       have:l.filter (fun x=>decide (x<(n:Int)))=l:=List.filter_eq_self.2 fun y hy=>by
        have h3:=h y (Vl _ hy);have:y≠x:=fun e=>hd.1 (e ▸ hy);rw [decide_eq_true_eq];omega
       rw [this];simp
   omega
theorem R4{B:Nat→Prop}{H0 H:Aa}{l nb bx:Nat}{Q:List Int→Pc→Prop}{mm:Int→Option Value}{rest:List Pc}{p:Pc}(hr:∀q,Dom mm q→0≤q∧q<65536)(hy:TB l (fun x=>0≤x∧x<65536) Q)
  (st:StB B H0 H (p::pMW C4 kI nb mm::pB 149 bx [.map (some nb)]::rest)) (hQ:Q [] p):
  Ao Tryz.prog 90 #[.func (.yield l) #[] #[],.pointer (some ⟨bx,0,none⟩)] H fun _ H'=>∃ks p',Q ks p'∧ks.Nodup∧(∀q,q∈ks↔Dom mm q)∧StB B H0 H' (p'::pMW C4 kI nb mm::pB 149 bx [.map (some nb)]::rest):=by
 refine Ao.of_vcI Tryz.func90 rfl (Tryz.call90 _) ?_;refine ld1 (v:=.map (some nb)) TM (by rw [(st.blk 2 rfl).cell];rfl) trivial ?_;refine Ou st 1 Ot rfl fun r n H1 st1=>?_;(conv=>whnf);refine Iw.mk [] (fun _:List Int×Nat=>[]) (fun x ds H2=>ds=[]∧x.1.Nodup∧(∀q∈x.1,Dom mm q)∧∃D last p',(∀q,D q↔q∈x.1)∧Q x.1 p'∧StB B H0 H2 (p'::pIW C4 kI nb r mm D last x.2::pB 149 bx [.map (some nb)]::rest)) (fun x _=>x.2) ?_ ?_
 ·(conv=>whnf);exact⟨([],n),rfl,rfl,List.Pairwise.nil,(fun q h=>by cases h),_,none,p,fun q=>⟨fun h=>h.elim,fun h=>by cases h⟩,hQ,st1⟩
 ·rintro⟨ks,n2⟩ ds H2 junk ⟨rfl,hnd,hin,D,last,p',hD,hQ2,st2⟩;simp only at hnd hin hD hQ2 st2;have hlen:=FQ 65536 ks hnd fun x hx=>hr x (hin x hx);refine Qm st2 1 Hm.inj rfl (fun hall=>?_) fun q v H3 n3 hq hnD hlt st3=>?_
  ·refine MX.nil ?_;(conv=>whnf);exact⟨ks,p',hQ2,hnd,fun q=>⟨hin q,fun h=>(hD q).1 (hall q h)⟩,st2.iterEnd 1 rfl⟩
  ·have hdq:Dom mm q:=by unfold Dom;rw [hq];rfl
   have hqk:q∉ks:=fun h=>hnD ((hD q).2 h);have hlt2:ks.length<65536:=by
    have:=FQ 65536 (ks++[q]) (Vq.2 ⟨hnd,by simp,fun x hx y hy e=>by rw [UT]at hy;subst hy;subst e;exact hqk hx⟩) fun x hx=>by
     rcases UQ.1 hx with h | h
     ·exact hr x (hin x h)
     ·rw [UT]at h;subst h;exact hr x hdq
    simp at this;omega
   refine Sy (st3.iterW 1 rfl) Hm.inj hq (LQ (hy st3 0 p' ks q rfl hQ2 hlt2 (hr q hdq)) fun v' H4 h4=>?_);obtain⟨rfl,p2,hQ4,st4⟩:=h4;(conv=>whnf);refine⟨rfl,(ks++[q],n3),rfl,⟨rfl,Vq.2 ⟨hnd,by simp,fun x hx y hy e=>by rw [UT]at hy;subst hy;subst e;exact hqk hx⟩,fun x hx=>?_,_,_,p2,fun x=>?_,hQ4,st4⟩,hlt⟩
   ·rcases UQ.1 hx with h | h
    ·exact hin x h
    ·rw [UT]at h;subst h;exact hdq
   ·simp only [UQ,UT,hD]
def SQ(L:Nat)(rec:LoopState→Option Code→Loop)(b:Nat)(pre:List Int)(p:Pc):Prop:=
 ∃a cap,p=L5 [pLp L (rec .ready none),pB 54 b [.slice a pre.length cap],pS tIk 3 a pre.length cap pre]
theorem R5{x:Int}(h:0≤x∧x<65536):inK .i64 x:=⟨by simp [IntKind.min,IntKind.signed,IntKind.bits];omega,by simp [IntKind.max,IntKind.signed,IntKind.bits];omega⟩
theorem LW{B:Nat→Prop}{H0 H:Aa}{nb bx:Nat}{mm:Int→Option Value}{rest:List Pc}(hr:∀q,Dom mm q→0≤q∧q<65536)
  (st:StB B H0 H (pMW C4 kI nb mm::pB 149 bx [.map (some nb)]::rest)):
  Ao Tryz.prog 103 #[.slice none 0 0,.func (.func 90) #[] #[.pointer (some ⟨bx,0,none⟩)]] H fun r H'=>∃ks a cap,r= .slice a ks.length cap∧ks.Nodup∧(∀q,q∈ks↔Dom mm q)∧StB B H0 H' (pS tIk 3 a ks.length cap ks::pMW C4 kI nb mm::pB 149 bx [.map (some nb)]::rest):=by
 refine Ao.of_vcI Tryz.func103 rfl (Tryz.call103 _) (BM [.slice none 0 0] rfl ?_);intro b2 H1 hb2 hs1 hk1 ha1;have st1:StB B H0 H1 (pB 54 b2 [.slice none 0 0]::pMW C4 kI nb mm::pB 149 bx [.map (some nb)]::rest):=(st.box hb2 hs1 hk1 ha1).perm (UP _ _);have st2:StB B H0 H1 (pS tIk 3 none 0 0 []::pB 54 b2 [.slice none 0 0]::pMW C4 kI nb mm::pB 149 bx [.map (some nb)]::rest):=(st1.nils tIk 3).perm (UP _ _);refine VRF.mk 90 #[.pointer (some ⟨bx,0,none⟩)] rfl ?_;rintro rec ⟨fn,hrec⟩;have st3:=st2.pushMark.perm (UP _ _);have st4:=(st3.pushLoop (rec .ready none)).perm (UP _ _);rw [Array.size_push]at st4;have st5:StB B H0 _ ([pLp (H1.size+1) (rec .ready none),pB 54 b2 [.slice none 0 0],pS tIk 3 none 0 0 []]++(pMW C4 kI nb mm::pB 149 bx [.map (some nb)]::pDs [H1.size]::rest)):=st4.pickN 6 [0,3,2,4,5,1] (by decide);have st6:=st5.bundle;have hy:TB (H1.size+1) (fun x=>0≤x∧x<65536) (SQ (H1.size+1) rec b2):=by
  intro B' H0' H'' ps st i p pre x hp hQ hle hx;obtain⟨a',cap',rfl⟩:=hQ;have so:=st.open_ i hp;refine E0.mk2 _ _ _ _ _ _ rec hrec (so.at_ 0 rfl) rfl ?_;(conv=>whnf);refine⟨rfl,so.at_ 0 rfl,?_⟩;have so1:=so.lpSet 0 rfl (rec .busy none);refine ld1 (v:=.slice a' pre.length cap') JB (by rw [(so1.blk 1 rfl).cell];rfl) trivial ?_;refine AM BU [.int .i64 x] rfl rfl (by decide) (by decide) ?_;intro q21 H21 hq21 hs21 hb21 ha21;refine Rf (x:=x) (so1.skip hq21 ha21) 2 BU rfl hb21 ⟨rfl,R5 hx⟩ rfl (by omega) (by decide) fun a'' c'' H22 so2 _=>(AG so2 1 JB rfl (by simp) rfl fun H23 so3=>?_);(conv=>whnf);have so4:=so3.lpSet 0 rfl (rec .ready none);have el:pre.length+1=(pre++[x]).length:=by simp
  refine⟨so3.at_ 0 rfl,rfl,_,⟨a'',c'',rfl⟩,?_⟩;rw [el]at so4;exact st.close i hp so4
 refine(R4 (Q:=SQ (H1.size+1) rec b2) hr hy st6 ⟨none,0,rfl⟩).mono fun _ H8 hE=>?_;obtain⟨ks,p1,⟨a1,c1,rfl⟩,hnd,hin,st7⟩:=hE;have st8:=st7.unbundle;refine⟨.ready,none,by decide,st8.at_ 0 rfl,.inl ⟨rfl,?_⟩⟩;have st9:=st8.lpSet 0 rfl (rec .exhausted none);have st10:StB B H0 _ (pDs [H1.size]::pS tIk 3 a1 ks.length c1 ks::pMW C4 kI nb mm::pB 149 bx [.map (some nb)]::pB 54 b2 [.slice a1 ks.length c1]::rest):=st9.pickN 6 [5,2,3,4,1] (by decide);refine ld1 (v:=.slice a1 ks.length c1) JB (by rw [(st10.blk 4 rfl).cell];rfl) trivial ?_;(conv=>whnf);refine MX.in_ (by simp) (st10.at_ 0 rfl) fun H'' ha hs=>?_;have st11:=st10.dsOff ha hs;(conv=>whnf);exact⟨ks,a1,c1,rfl,hnd,hin,st11.pickN 4 [0,1,2] (by decide)⟩
theorem N9{ks:List Int}(h:ks.Nodup):(ks.mergeSort fun x y=>decide (x≤y)).Pairwise (·<·):=by
 have h1:(ks.mergeSort fun x y=>decide (x≤y)).Pairwise (·≤·):=(List.pairwise_mergeSort (fun a b c h1 h2=>by simp only [decide_eq_true_eq]at*;omega) (fun a b=>by simp only [Bool.or_eq_true,decide_eq_true_eq];omega) _).imp fun h=>of_decide_eq_true h;have h2:(ks.mergeSort fun x y=>decide (x≤y)).Nodup:=(List.mergeSort_perm _ _).nodup_iff.2 h;exact(h1.and h2).imp fun⟨h3,h4⟩=>by omega
theorem LD{B:Nat→Prop}{H0 H:Aa}{nb bx:Nat}{mm:Int→Option Value}{rest:List Pc}(hr:∀q,Dom mm q→0≤q∧q<65536)
  (st:StB B H0 H (pMW C4 kI nb mm::pB 149 bx [.map (some nb)]::rest)):
  Ao Tryz.prog 67 #[.func (.func 90) #[] #[.pointer (some ⟨bx,0,none⟩)]] H fun r H'=>∃ks a cap,r= .slice a ks.length cap∧ks.Pairwise (·<·)∧(∀q,q∈ks↔Dom mm q)∧StB B H0 H' (pS tIk 3 a ks.length cap ks::pMW C4 kI nb mm::pB 149 bx [.map (some nb)]::rest):=by
 refine Ao.of_vc Tryz.func67 rfl (Tryz.call67 _) (Ai.mk (R:=fun r H'=>∃ks a cap,r= .slice a ks.length cap∧ks.Nodup∧(∀q,q∈ks↔Dom mm q)∧StB B H0 H' (pS tIk 3 a ks.length cap ks::pMW C4 kI nb mm::pB 149 bx [.map (some nb)]::rest)) ?_ ?_)
 ·refine Ao.of_vc Tryz.func88 rfl (Tryz.call88 _) (Ai.mk (LW hr st) ?_);rintro _ H1 ⟨ks,a,cap,rfl,h1,h2,h3⟩;(conv=>whnf);exact⟨ks,a,cap,rfl,h1,h2,h3⟩
 ·rintro _ H1 ⟨ks,a,cap,rfl,hnd,hin,st1⟩;have hlen:=FQ 65536 ks hnd fun x hx=>hr x ((hin x).1 hx);refine Un Tk st1 0 rfl (by omega) fun H2 st2=>?_;(conv=>whnf);have el:(ks.mergeSort fun x y=>decide (x≤y)).length=ks.length:=List.length_mergeSort _;refine⟨ks.mergeSort fun x y=>decide (x≤y),a,cap,by rw [el],N9 hnd,fun q=>by rw [List.mem_mergeSort];exact hin q,?_⟩;rw [el];exact st2
def stM:ReM→Nat
 | .eps=>2
 | .cls _=>2
 | .cat a b=>stM a+stM b
 | .alt a b=>stM a+stM b+2
 | .star a=>stM a+2
 | .and_ _ _=>0
 | .minus _ _=>0
def AA(p q:Nat):EdM:=⟨p,q,true,0#256⟩
def CJ(p q:Nat)(s:BitVec 256):EdM:=⟨p,q,false,s⟩
def By:ReM→Nat→Nat×Nat×List EdM
 | .eps,n=>(n,n+1,[AA n (n+1)])
 | .cls s,n=>(n,n+1,[CJ n (n+1) s])
 | .cat a b,n=>((By a n).1,(By b (n+stM a)).2.1,(By a n).2.2++(By b (n+stM a)).2.2++[AA (By a n).2.1 (By b (n+stM a)).1])
 | .alt a b,n=>(n,n+1+stM a+stM b,(By a (n+1)).2.2++(By b (n+1+stM a)).2.2++
   [AA n (By a (n+1)).1,AA n (By b (n+1+stM a)).1,AA (By a (n+1)).2.1 (n+1+stM a+stM b),AA (By b (n+1+stM a)).2.1 (n+1+stM a+stM b)])
 | .star a,n=>(n,n+1+stM a,(By a (n+1)).2.2++[AA n (By a (n+1)).1,AA n (n+1+stM a),AA (By a (n+1)).2.1 (By a (n+1)).1,AA (By a (n+1)).2.1 (n+1+stM a)])
 | .and_ _ _,n=>(n,n,[])
 | .minus _ _,n=>(n,n,[])
theorem Dv:∀(r:ReM),r.plain=true→∀n,(By r n).2.2.length+1≤2*stM r
 | .eps,_,n=>by simp [By,stM]
 | .cls _,_,n=>by simp [By,stM]
 | .cat a b,h,n=>by
   simp only [ReM.plain,UX]at h;have h1:=Dv a h.1 n;have h2:=Dv b h.2 (n+stM a);simp only [By,stM,UL,UM,UN];omega
 | .alt a b,h,n=>by
   simp only [ReM.plain,UX]at h;have h1:=Dv a h.1 (n+1);have h2:=Dv b h.2 (n+1+stM a);simp only [By,stM,UL,UM,UN];omega
 | .star a,h,n=>by
   have h1:=Dv a h (n+1);simp only [By,stM,UL,UM,UN];omega
 | .and_ _ _,h,_=>by cases h
 | .minus _ _,h,_=>by cases h
theorem Fg:∀(r:ReM),r.plain=true→∀n,n≤(By r n).1∧(By r n).1<n+stM r∧n≤(By r n).2.1∧(By r n).2.1<n+stM r
 | .eps,_,n=>by simp only [By,stM];omega
 | .cls _,_,n=>by simp only [By,stM];omega
 | .cat a b,h,n=>by
   simp only [ReM.plain,UX]at h;have h1:=Fg a h.1 n;have h2:=Fg b h.2 (n+stM a);simp only [By,stM];omega
 | .alt a b,h,n=>by simp only [By,stM];omega
 | .star a,h,n=>by simp only [By,stM];omega
 | .and_ _ _,h,_=>by cases h
 | .minus _ _,h,_=>by cases h
def bdL(n:Nat)(v sub:Value):List Value:=[.int .i64 (n:Int),.int .i64 0,.int .i64 0,v,sub,.int .i64 0]
abbrev tBd:TypeId:=118
section
variable{B:Nat→Prop}{H0 H:Aa}{rest:List Pc}{bb n:Nat}{v sub:Value}
theorem El{K:Value→Aa→Prop}(st:StB B H0 H (pB tBd bb (bdL n v sub)::rest))(hn:n≤2000000)(k:∀H',StB B H0 H' (pB tBd bb (bdL (n+1) v sub)::rest)→K (.int .i64 (n:Int)) H'):
  Ai Tryz.prog 70 #[.pointer (some ⟨bb,0,none⟩)] H K:=by
 refine Ai.mk (R:=fun r H'=>r= .int .i64 (n:Int)∧StB B H0 H' (pB tBd bb (bdL (n+1) v sub)::rest)) ?_ fun r H' ⟨h1,h2⟩=>by rw [h1];exact k H' h2
 refine Ao.of_vc Tryz.func70 rfl (Tryz.call70 _) (fa Bf (fa CN ?_));refine ld1 (v:=.int .i64 (n:Int)) ct3 (by rw [(st.blk 0 rfl).cell];rfl) trivial ?_;(conv=>whnf);rw [w64 (x:=(n:Int)+1) (by omega) (by omega)];refine fa Bf (fa CN (AG st 0 ct3 rfl (show 0<6 by decide) rfl fun H1 st1=>(fa Bf (fa CN ?_))));refine ld1 (v:=.int .i64 ((n:Int)+1)) ct3 (by rw [(st1.blk 0 rfl).cell];rfl) trivial ?_;(conv=>whnf);rw [w64 (x:=(n:Int)+1 - 1) (by omega) (by omega),show(n:Int)+1 - 1=(n:Int) by omega];(conv=>whnf);exact⟨rfl,st1⟩
theorem NW{p q:Nat}(hp:p≤2000000)(hq:q≤2000000)(s:Bool)(t:BitVec 256):(EdM.mk p q s t).Ok:=⟨BB (by omega),BB (by omega)⟩
theorem KH(p q:Nat){S:Nat→Prop}{H:Aa}{K:Value→Prop}(k:K (.agg (edL (AA p q)).toArray)):
  AB Tryz.prog (Instr.build 104 [(0,.int .i64 (p:Int)),(1,.int .i64 (q:Int)),(2,.bool true)].toArray) S H K:=by
 have e:edL (AA p q)=[.int .i64 (p:Int),.int .i64 (q:Int),.bool true,.int .u64 0,.int .u64 0,.int .u64 0,.int .u64 0]:=by
  have h:∀i,wd 0#256 i=0:=fun i=>by unfold wd;simp
  simp [edL,AA,h]
 rw [e]at k;exact Av Tryz.underlying104 rfl _ Fv _ (by kernel_rfl) k
theorem QC(x y:Int)(w0 w1 w2 w3:Value){S:Nat→Prop}{H:Aa}{K:Value→Prop}(h0:w0.oneCell'=true)(h1:w1.oneCell'=true)(h2:w2.oneCell'=true)(h3:w3.oneCell'=true)(k:K (.agg [.int .i64 x,.int .i64 y,.bool false,w0,w1,w2,w3].toArray)):
  AB Tryz.prog (Instr.build 104 [(0,.int .i64 x),(1,.int .i64 y),(3,.agg [w0,w1,w2,w3].toArray)].toArray) S H K:=
 Av Tryz.underlying104 rfl _ Fv [.int .i64 x,.int .i64 y,.bool false,w0,w1,w2,w3] (by kernel_rfl) k
theorem KF(p q:Nat)(s:BitVec 256){S:Nat→Prop}{H:Aa}{K:Value→Prop}(k:K (.agg (edL (CJ p q s)).toArray)):
  AB Tryz.prog (Instr.build 104 [(0,.int .i64 (p:Int)),(1,.int .i64 (q:Int)),(3,.agg (Ak s).toArray)].toArray) S H K:=by
 unfold CJ edL at k;unfold Ak;exact QC _ _ _ _ _ _ rfl rfl rfl rfl k
theorem Ft{K:Value→Aa→Prop}{a:Option Addr}{c p q:Nat}{es:List EdM}(st:StB B H0 H (pB tBd bb (bdL n (.slice a es.length c) sub)::pS tEd 104 a es.length c es::rest))(hp:p≤2000000)(hq:q≤2000000)(hl:es.length+1≤4194304)
  (k:∀a' c' H',StB B H0 H' (pB tBd bb (bdL n (.slice a' (es++[AA p q]).length c') sub)::pS tEd 104 a' (es++[AA p q]).length c' (es++[AA p q])::rest)→K (.tuple #[]) H'):
  Ai Tryz.prog 71 #[.pointer (some ⟨bb,0,none⟩),.int .i64 (p:Int),.int .i64 (q:Int)] H K:=by
 refine Ai.mk (R:=fun r H'=>r= .tuple #[]∧∃a' c',StB B H0 H' (pB tBd bb (bdL n (.slice a' (es++[AA p q]).length c') sub)::pS tEd 104 a' (es++[AA p q]).length c' (es++[AA p q])::rest)) ?_ fun r H' ⟨h1,a',c',h2⟩=>by rw [h1];exact k a' c' H' h2
 refine Ao.of_vc Tryz.func71 rfl (Tryz.call71 _) (fa Bf (fa CC ?_));refine ld1 (v:=.slice a es.length c) FI (by rw [(st.blk 0 rfl).cell];rfl) trivial ?_;refine KH p q (AM FB (edL (AA p q)) rfl rfl (by decide) (by decide) ?_);intro y H1 hy hs1 hb1 ha1;have st1:=st.skip hy ha1;refine KT (ys:=[AA p q]) st1 1 FB rfl (hb1.cells (o:=0) (cs:=edL (AA p q)) fun j v hv=>by rw [UR];exact hv) (Ty.reps_one ⟨rfl,NW hp hq _ _⟩) rfl (fun u hu=>UY.1 (FJ _) u hu) (by simp only [UM,UN];omega) (by decide) fun a9 c9 H9 st9 _=>?_;refine fa Bf (fa CC (AG st9 0 FI rfl (show 3<6 by decide) rfl fun H10 st10=>?_));(conv=>whnf);have el:es.length+[AA p q].length=(es++[AA p q]).length:=by simp
 rw [el]at st10;exact⟨rfl,a9,c9,st10⟩
theorem Ri{K:Value→Aa→Prop}{a:Option Addr}{c:Nat}{es:List EdM}{s:BitVec 256}(st:StB B H0 H (pB tBd bb (bdL n (.slice a es.length c) sub)::pS tEd 104 a es.length c es::rest))(hn:n≤1000000)(hl:es.length+1≤4194304)
  (k:∀a' c' H',StB B H0 H' (pB tBd bb (bdL (n+2) (.slice a' (es++[CJ n (n+1) s]).length c') sub)::pS tEd 104 a' (es++[CJ n (n+1) s]).length c' (es++[CJ n (n+1) s])::rest)→K (.tuple #[.int .i64 (n:Int),.int .i64 ((n+1:Nat):Int)]) H'):
  Ai Tryz.prog 72 #[.pointer (some ⟨bb,0,none⟩),BT s] H K:=by
 refine Ai.mk (R:=fun r H'=>r= .tuple #[.int .i64 (n:Int),.int .i64 ((n+1:Nat):Int)]∧∃a' c',StB B H0 H' (pB tBd bb (bdL (n+2) (.slice a' (es++[CJ n (n+1) s]).length c') sub)::pS tEd 104 a' (es++[CJ n (n+1) s]).length c' (es++[CJ n (n+1) s])::rest)) ?_ fun r H' ⟨h1,a',c',h2⟩=>by rw [h1];exact k a' c' H' h2
 refine Ao.of_vc Tryz.func72 rfl (Tryz.call72 _) (BM (Ak s) rfl ?_);intro x H1 hx hs1 hb1 ha1;have st1:=(st.box hx hs1 hb1 ha1).perm (UP _ _);have st2:StB B H0 H1 (pB tBd bb (bdL n (.slice a es.length c) sub)::pB 102 x (Ak s)::pS tEd 104 a es.length c es::rest):=st1.perm (List.Perm.swap _ _ _);refine El st2 (by omega) fun H3 st3=>(El st3 (by omega) fun H4 st4=>?_);have hdis:=st4.apart2 (i:=0) (j:=2) rfl rfl (by decide);have hdis2:=st4.apart2 (i:=1) (j:=2) rfl rfl (by decide);refine As.heldZ (fun k=>k<H4.size∧¬slB (.slice a es.length c) k) [15] (sq [0,1,2,3,4,5,6,7,8,9] (.f 10 (.f 11 (sq [12,13,14] (.f 15 .e))))) rfl (by kernel_rfl) ?_;have hb4:bb<H4.size∧¬slB (.slice a es.length c) bb:=⟨(st4.in_ 0 rfl rfl).2,fun h=>hdis bb rfl (.inl h)⟩;have hx4:x<H4.size∧¬slB (.slice a es.length c) x:=⟨(st4.in_ 1 rfl rfl).2,fun h=>hdis2 x rfl (.inl h)⟩;refine fa Bf (fa CC ?_);refine ld1 (v:=.slice a es.length c) FI (by rw [(st4.blk 0 rfl).cell];rfl) hb4 ?_;refine ldN (cs:=Ak s) B0 ((st4.blk 1 rfl).cells fun j v hv=>by rw [UR];exact hv) hx4 ?_;refine KF n (n+1) s (AM FB (edL (CJ n (n+1) s)) rfl rfl (by decide) (by decide) ?_);intro y H5 hy hs5 hb5 ha5;have st5:=st4.skip hy ha5;refine⟨ha5.mono fun k hk=>by have:=hk.1;omega,?_⟩;refine KT (ys:=[CJ n (n+1) s]) st5 2 FB rfl (hb5.cells (o:=0) (cs:=edL (CJ n (n+1) s)) fun j v hv=>by rw [UR];exact hv) (Ty.reps_one ⟨rfl,NW (by omega) (by omega) _ _⟩) rfl (fun u hu=>UY.1 (FJ _) u hu) (by simp only [UM,UN];omega) (by decide) fun a9 c9 H9 st9 ha9=>?_;refine⟨(ha5.mono fun k hk=>by have:=hk.1;omega).trans (ha9.mono fun k hk=>⟨by have:=hk.1;omega,hk.2⟩),?_⟩;refine fa Bf (fa CC (AG st9 0 FI rfl (show 3<6 by decide) rfl fun H10 st10=>?_));(conv=>whnf);have el:es.length+[CJ n (n+1) s].length=(es++[CJ n (n+1) s]).length:=by simp
 rw [el]at st10;exact⟨rfl,a9,c9,(st10.perm (List.Perm.swap _ _ _)).sub (UW _ _)⟩
end
theorem Cr:(Tryz.prog.info? 127).bind (·.zero)=some (.agg #[]):=rfl
theorem Ci:(Tryz.prog.info? 130).bind (·.zero)=some (.agg #[.int .u64 0,.int .u64 0,.int .u64 0,.int .u64 0]):=rfl
theorem DF:(Tryz.prog.info? 132).bind (·.zero)=some (.agg #[.nilIface,.nilIface]):=rfl
theorem DG:(Tryz.prog.info? 163).bind (·.zero)=some (.agg #[.nilIface,.nilIface]):=rfl
theorem Ii:(Tryz.prog.info? 165).bind (·.zero)=some (.agg #[.nilIface]):=rfl
theorem Tc{B:Nat→Prop}{H0:Aa}{bb:Nat}{sub:Value}:∀(r:ReM),r.plain=true→∀{H:Aa} {rest:List Pc} {n:Nat} {a:Option Addr} {c:Nat} {es:List EdM} (st:StB B H0 H (pB tBd bb (bdL n (.slice a es.length c) sub)::pS tEd 104 a es.length c es::rest)),n+stM r≤1000000→es.length+2*stM r≤4000000→
  Ao Tryz.prog 44 #[.pointer (some ⟨bb,0,none⟩),Ad r] H fun v H'=>v= .tuple #[.int .i64 ((By r n).1:Nat),.int .i64 ((By r n).2.1:Nat)]∧∃a' c',StB B H0 H' (pB tBd bb (bdL (n+stM r) (.slice a' (es++(By r n).2.2).length c') sub)::pS tEd 104 a' (es++(By r n).2.2).length c' (es++(By r n).2.2)::rest):=fun r=>by
 induction r with
 | eps=>
   intro hpl H rest n a c es st hn hl;simp only [stM]at hn hl;refine Ao.of_vc Tryz.func44 rfl (Tryz.call44 _) (fa BE ?_);refine ld1 (v:=.int .i64 0) FH (by rw [(st.blk 0 rfl).cell];rfl) trivial ?_;refine BX Tryz.underlying127 (by intro ms h;cases h) ?_;refine Ag (.agg #[]) [] rfl rfl ?_;intro x H1 hx hs1 hb1 ha1;have st1:StB B H0 H1 (pB 127 x []::pB tBd bb (bdL n (.slice a es.length c) sub)::pS tEd 104 a es.length c es::rest):=(st.box hx hs1 hb1 ha1).perm (UP _ _);refine Ay (cs:=[]) st1 0 rfl rfl (UO _) rfl fun H2 st2=>?_;have st3:StB B H0 H2 (pB tBd bb (bdL n (.slice a es.length c) sub)::pS tEd 104 a es.length c es::rest):=st2.sub (UW _ _);refine El st3 (by omega) fun H4 st4=>(El st4 (by omega) fun H5 st5=>(Ft st5 (by omega) (by omega) (by omega) fun a' c' H6 st6=>?_));(conv=>whnf);exact⟨rfl,a',c',st6⟩
 | cls s=>
   intro hpl H rest n a c es st hn hl;simp only [stM]at hn hl;refine Ao.of_vc Tryz.func44 rfl (Tryz.call44 _) (fa BE ?_);refine ld1 (v:=.int .i64 0) FH (by rw [(st.blk 0 rfl).cell];rfl) trivial ?_;refine AE Tryz.underlying127 (by intro ms h;cases h) Cr (by decide) ?_;refine BX Tryz.underlying130 (by intro ms h;cases h) ?_;refine Ag _ [.int .u64 0,.int .u64 0,.int .u64 0,.int .u64 0] Ci rfl ?_;intro x H1 hx hs1 hb1 ha1;have st1:StB B H0 H1 (pB 130 x [.int .u64 0,.int .u64 0,.int .u64 0,.int .u64 0]::pB tBd bb (bdL n (.slice a es.length c) sub)::pS tEd 104 a es.length c es::rest):=(st.box hx hs1 hb1 ha1).perm (UP _ _);refine Ay (cs:=Ak s) st1 0 rfl rfl (UO _) rfl fun H2 st2=>?_;rw [Ae (show(Ak s).length=4 from rfl)]at st2;refine fa Lf (ldN (cs:=Ak s) B0 ((st2.blk 0 rfl).cells fun j v hv=>by simpa using hv) trivial ?_);have st3:StB B H0 H2 (pB tBd bb (bdL n (.slice a es.length c) sub)::pS tEd 104 a es.length c es::rest):=st2.sub (UW _ _);refine Ri st3 (by omega) (by omega) fun a' c' H4 st4=>?_;(conv=>whnf);exact⟨rfl,a',c',st4⟩
 | cat r1 r2 ih1 ih2=>
   intro hpl H rest n a c es st hn hl;simp only [ReM.plain,UX]at hpl;simp only [stM]at hn hl;have l1:=Dv r1 hpl.1 n;have l2:=Dv r2 hpl.2 (n+stM r1);have i1:=Fg r1 hpl.1 n;have i2:=Fg r2 hpl.2 (n+stM r1);refine Ao.of_vc Tryz.func44 rfl (Tryz.call44 _) (fa BE ?_);refine ld1 (v:=.int .i64 0) FH (by rw [(st.blk 0 rfl).cell];rfl) trivial ?_;refine AE Tryz.underlying127 (by intro ms h;cases h) Cr (by decide) ?_;refine AE Tryz.underlying130 (by intro ms h;cases h) Ci (by decide) ?_;refine BX Tryz.underlying132 (by intro ms h;cases h) ?_;refine Ag _ [.nilIface,.nilIface] DF rfl ?_;intro x H1 hx hs1 hb1 ha1;have st1:StB B H0 H1 (pB 132 x [.nilIface,.nilIface]::pB tBd bb (bdL n (.slice a es.length c) sub)::pS tEd 104 a es.length c es::rest):=(st.box hx hs1 hb1 ha1).perm (UP _ _);refine Ay (cs:=[Ad r1,Ad r2]) st1 0 rfl rfl (UO _) (by simp [Cn]) fun H2 st2=>?_;rw [Ae (show [Ad r1,Ad r2].length=2 from rfl)]at st2;refine fa Jk ?_;refine ld1 (v:=Ad r1) C8 (by rw [(st2.blk 0 rfl).cell];rfl) trivial ?_;have st3:StB B H0 H2 (pB tBd bb (bdL n (.slice a es.length c) sub)::pS tEd 104 a es.length c es::pB 132 x [Ad r1,Ad r2]::rest):=st2.pickN 3 [1,2,0] (by decide);refine Ai.mk (ih1 hpl.1 st3 (by omega) (by omega)) ?_;rintro _ H4 ⟨rfl,a4,c4,st4⟩;refine fa HY ?_;refine ld1 (v:=Ad r2) C8 (by rw [(st4.blk 2 rfl).cell];rfl) trivial ?_;refine Ai.mk (ih2 hpl.2 st4 (by omega) (by rw [UL];omega)) ?_;rintro _ H5 ⟨rfl,a5,c5,st5⟩;refine Ft st5 (by omega) (by omega) (by rw [UL,UL];omega) fun a6 c6 H6 st6=>?_;(conv=>whnf);have e1:es++(By r1 n).2.2++(By r2 (n+stM r1)).2.2++[AA (By r1 n).2.1 (By r2 (n+stM r1)).1]=es++(By (.cat r1 r2) n).2.2:=by simp [By]
   rw [e1,Nat.add_assoc]at st6;exact⟨rfl,a6,c6,st6.pickN 3 [0,1] (by decide)⟩
 | alt r1 r2 ih1 ih2=>
   intro hpl H rest n a c es st hn hl;simp only [ReM.plain,UX]at hpl;simp only [stM]at hn hl;have l1:=Dv r1 hpl.1 (n+1);have l2:=Dv r2 hpl.2 (n+1+stM r1);have i1:=Fg r1 hpl.1 (n+1);have i2:=Fg r2 hpl.2 (n+1+stM r1);refine Ao.of_vc Tryz.func44 rfl (Tryz.call44 _) (fa BE ?_);refine ld1 (v:=.int .i64 0) FH (by rw [(st.blk 0 rfl).cell];rfl) trivial ?_;refine AE Tryz.underlying127 (by intro ms h;cases h) Cr (by decide) ?_;refine AE Tryz.underlying130 (by intro ms h;cases h) Ci (by decide) ?_;refine AE Tryz.underlying132 (by intro ms h;cases h) DF (by decide) ?_;refine BX Tryz.underlying163 (by intro ms h;cases h) ?_;refine Ag _ [.nilIface,.nilIface] DG rfl ?_;intro x H1 hx hs1 hb1 ha1;have st1:StB B H0 H1 (pB 163 x [.nilIface,.nilIface]::pB tBd bb (bdL n (.slice a es.length c) sub)::pS tEd 104 a es.length c es::rest):=(st.box hx hs1 hb1 ha1).perm (UP _ _);refine Ay (cs:=[Ad r1,Ad r2]) st1 0 rfl rfl (UO _) (by simp [Cn]) fun H2 st2=>?_;rw [Ae (show [Ad r1,Ad r2].length=2 from rfl)]at st2;have st3:StB B H0 H2 (pB tBd bb (bdL n (.slice a es.length c) sub)::pS tEd 104 a es.length c es::pB 163 x [Ad r1,Ad r2]::rest):=st2.pickN 3 [1,2,0] (by decide);refine El st3 (by omega) fun H4 st4=>(fa Jl ?_);refine ld1 (v:=Ad r1) C8 (by rw [(st4.blk 2 rfl).cell];rfl) trivial ?_;refine Ai.mk (ih1 hpl.1 st4 (by omega) (by omega)) ?_;rintro _ H5 ⟨rfl,a5,c5,st5⟩;refine fa HZ ?_;refine ld1 (v:=Ad r2) C8 (by rw [(st5.blk 2 rfl).cell];rfl) trivial ?_;refine Ai.mk (ih2 hpl.2 st5 (by omega) (by rw [UL];omega)) ?_;rintro _ H6 ⟨rfl,a6,c6,st6⟩;refine El st6 (by omega) fun H7 st7=>?_;refine Ft st7 (by omega) (by omega) (by simp only [UL];omega) fun a8 c8 H8 st8=>?_;refine Ft st8 (by omega) (by omega) (by simp only [UL,UM,UN];omega) fun a9 c9 H9 st9=>?_;refine Ft st9 (by omega) (by omega) (by simp only [UL,UM,UN];omega) fun a10 c10 H10 st10=>?_;refine Ft st10 (by omega) (by omega) (by simp only [UL,UM,UN];omega) fun a11 c11 H11 st11=>?_;(conv=>whnf);have e1:es++(By r1 (n+1)).2.2++(By r2 (n+1+stM r1)).2.2++[AA n (By r1 (n+1)).1]++[AA n (By r2 (n+1+stM r1)).1]++[AA (By r1 (n+1)).2.1 (n+1+stM r1+stM r2)]++[AA (By r2 (n+1+stM r1)).2.1 (n+1+stM r1+stM r2)]=es++(By (.alt r1 r2) n).2.2:=by simp [By]
   rw [e1,show n+1+stM r1+stM r2+1=n+stM (.alt r1 r2) by simp only [stM];omega]at st11;exact⟨rfl,a11,c11,st11.pickN 3 [0,1] (by decide)⟩
 | star r1 ih1=>
   intro hpl H rest n a c es st hn hl;have hpl1:r1.plain=true:=hpl;simp only [stM]at hn hl;have l1:=Dv r1 hpl1 (n+1);have i1:=Fg r1 hpl1 (n+1);refine Ao.of_vc Tryz.func44 rfl (Tryz.call44 _) (fa BE ?_);refine ld1 (v:=.int .i64 0) FH (by rw [(st.blk 0 rfl).cell];rfl) trivial ?_;refine AE Tryz.underlying127 (by intro ms h;cases h) Cr (by decide) ?_;refine AE Tryz.underlying130 (by intro ms h;cases h) Ci (by decide) ?_;refine AE Tryz.underlying132 (by intro ms h;cases h) DF (by decide) ?_;refine AE Tryz.underlying163 (by intro ms h;cases h) DG (by decide) ?_;refine BX Tryz.underlying165 (by intro ms h;cases h) ?_;refine Ag _ [.nilIface] Ii rfl ?_;intro x H1 hx hs1 hb1 ha1;have st1:StB B H0 H1 (pB 165 x [.nilIface]::pB tBd bb (bdL n (.slice a es.length c) sub)::pS tEd 104 a es.length c es::rest):=(st.box hx hs1 hb1 ha1).perm (UP _ _);refine Ay (cs:=[Ad r1]) st1 0 rfl rfl (UO _) (by simp [Cn]) fun H2 st2=>?_;rw [Ae (show [Ad r1].length=1 from rfl)]at st2;have st3:StB B H0 H2 (pB tBd bb (bdL n (.slice a es.length c) sub)::pS tEd 104 a es.length c es::pB 165 x [Ad r1]::rest):=st2.pickN 3 [1,2,0] (by decide);refine El st3 (by omega) fun H4 st4=>(fa Jm ?_);refine ld1 (v:=Ad r1) C8 (by rw [(st4.blk 2 rfl).cell];rfl) trivial ?_;refine Ai.mk (ih1 hpl1 st4 (by omega) (by omega)) ?_;rintro _ H5 ⟨rfl,a5,c5,st5⟩;refine El st5 (by omega) fun H7 st7=>?_;refine Ft st7 (by omega) (by omega) (by simp only [UL];omega) fun a8 c8 H8 st8=>?_;refine Ft st8 (by omega) (by omega) (by simp only [UL,UM,UN];omega) fun a9 c9 H9 st9=>?_;refine Ft st9 (by omega) (by omega) (by simp only [UL,UM,UN];omega) fun a10 c10 H10 st10=>?_;refine Ft st10 (by omega) (by omega) (by simp only [UL,UM,UN];omega) fun a11 c11 H11 st11=>?_;(conv=>whnf);have e1:es++(By r1 (n+1)).2.2++[AA n (By r1 (n+1)).1]++[AA n (n+1+stM r1)]++[AA (By r1 (n+1)).2.1 (By r1 (n+1)).1]++[AA (By r1 (n+1)).2.1 (n+1+stM r1)]=es++(By (.star r1) n).2.2:=by simp [By]
   rw [e1,show n+1+stM r1+1=n+stM (.star r1) by simp only [stM];omega]at st11;exact⟨rfl,a11,c11,st11.pickN 3 [0,1] (by decide)⟩
 | and_=>intro h;cases h
 | minus=>intro h;cases h
end Go.Proofs.YtlnmhfhdjnenoaaGreatDoor
namespace Go.VC
def MQ(all:List Oper)(o:Oper)(fr:Fr)(yes no:Fr→Prop):Prop:=
 match o.guard with
 | none=>yes fr
 | some (j,want)=>match(all[j]?).bind (·.dst)with
   | none=>False
   | some t=>rdK fr t fun v=>match v with
     | .bool b=>AQ b
       (wrK fr t (.bool true) fun fr1=>match want with
        | true=>yes fr1
        | false=>no fr1)
       (wrK fr t (.bool false) fun fr1=>match want with
        | false=>yes fr1
        | true=>no fr1)
     | .tuple _=>no fr
     | _=>False
theorem IS{all:List Oper}{o:Oper}{fr:Fr}{a:Act}{yes no:Fr→Prop}(hat:At fr a)(h:MQ all o fr yes no):
  (Region.wanted o (yielded all.toArray a.tmps)=true∧yes fr)∨(Region.wanted o (yielded all.toArray a.tmps)=false∧no fr):=by
 unfold MQ at h;split at h
 ·rename_i hg;exact .inl ⟨by simp [Region.wanted,hg],h⟩
 ·rename_i j want hg;split at h
  ·exact h.elim
  ·rename_i t ht;rw [CF]at h;split at h
   ·rename_i b hb;have hy:=Fc hat ht hb;have hs:fr.set t (.bool b)=fr:=Cs hb (by simp [undef]);cases b<;>cases want<;>simp only [AQ,D6,hs]at h
    ·exact .inl ⟨by simp [Region.wanted,hg,hy],h⟩
    ·exact .inr ⟨by simp [Region.wanted,hg,hy],h⟩
    ·exact .inr ⟨by simp [Region.wanted,hg,hy],h⟩
    ·exact .inl ⟨by simp [Region.wanted,hg,hy],h⟩
   ·rename_i vs hb;exact .inr ⟨by simp [Region.wanted,hg,Fd hat ht hb],h⟩
   ·exact h.elim
def ME(o:Oper)(H:Aa)(K:Fr→Aa→Prop)(fr:Fr):Prop:=Cj o.dst fr undef fun fr'=>apK K fr' H
def N1(P:Program)(S:Nat→Prop)(o:Oper)(H:Aa)(K:Fr→Aa→Prop)(fr:Fr):Prop:=
 match IF o&&Fh P o with
 | true=>Kh P S o fr H fun v=>Cj o.dst fr v fun fr'=>apK K fr' H
 | false=>False
def doG(P:Program)(S:Nat→Prop)(z:Bool)(H0:Aa)(o:Oper)(H:Aa)(K:Fr→Aa→Prop)(fr:Fr):Prop:=
 match z with
 | true=>opK P false (fun _=>True) o fr H fun v H'=>Cj o.dst fr v fun fr'=>apK K fr' H'
 | false=>opK P false (fun _=>True) o fr H fun v H'=>Agr S H0 H'∧Cj o.dst fr v fun fr'=>apK K fr' H'
def IR(P:Program)(S:Nat→Prop)(Z:List Nat)(H0:Aa)(all:List Oper)(i:Nat)(fr:Fr)(H:Aa)(next:Fr→Aa→Prop):Prop:=
 match all[i]? with
 | none=>False
 | some o=>MQ all o fr (doG P S (Z.contains i) H0 o H next) (ME o H next)
theorem DA{P:Program}{S:Nat→Prop}{Z:List Nat}{w0:World}{all:List Oper}{Q:Exit→Act→World→Prop}{i:Nat}{fr:Fr}{a:Act}{w:World}{next:Fr→Aa→Prop}{N:Act→World→Prop}
  (hat:At fr a) (hc:Env w0 w) (hcl:Z.contains i=false→Cls w0 S w) (h:IR P S Z w0.heap all i fr w.heap next)
  (hn:∀fr' a' w',At fr' a'→Env w0 w'→(Z.contains i=false→Cls w0 S w')→next fr' w'.heap→N a' w'):wpOp P all.toArray Q i N a w:=by
 unfold IR at h;split at h
 ·exact h.elim
 ·rename_i o ho;have ho':all.toArray[i]? =some o:=by simpa using ho
  rcases IS hat h with⟨hwant,h⟩ | ⟨hwant,h⟩
  ·unfold wpOp;rw [ho'];dsimp only;rw [if_pos hwant];unfold doG at h;split at h
   ·rename_i hz;refine .inl (Oper.wp_mono ?_ (Co hat h _));rintro a' w' ⟨v,rfl,henv,hk⟩;rw [BF]at hk;exact hn _ _ _ (hat.put o.dst v) (hc.trans henv) (fun hne=>by rw [hz]at hne;cases hne) hk
   ·refine .inl (Oper.wp_mono ?_ (Co hat h _));rintro a' w' ⟨v,rfl,henv,hagr,hk⟩;rw [BF]at hk;exact hn _ _ _ (hat.put o.dst v) (hc.trans henv) (fun _=>⟨hc.trans henv,hagr⟩) hk
  ·unfold wpOp;rw [ho'];dsimp only;rw [if_neg (by rw [hwant];exact Vn)];unfold ME at h;rw [BF]at h;exact hn _ _ _ (hat.put o.dst undef) hc hcl h
theorem StB.addSt{B:Nat→Prop}{H0 H H':Aa}{ps:List Pc}{p:Pc}(st:StB B H0 H ps)(st':St H H' [p]):StB B H0 H' (ps++[p]):=
 st.add st'.old p (st'.at_ 0 rfl) fun k hk=>⟨st'.ge 0 rfl hk,(st'.in_ 0 rfl hk).2⟩
end Go.VC
namespace Go.Proofs.YtlnmhfhdjnenoaaGreatDoor
open Go.VC
theorem Oq:HR Tryz.prog 147 3 35 (.slice none 0 0):=⟨rfl,rfl⟩
def OZ(a:NfM)(q:Int)(e:EdM):Bool:=a.has e.fr&&a.has e.to&&decide (e.fr=q)
def F7(a:NfM)(k:Nat)(q:Int):List EdM:=(a.edges.take k).filter (OZ a q)
def DZ(a:NfM)(q:Int):List EdM:=a.edges.filter (OZ a q)
theorem Pa(a:NfM):F7 a a.edges.length=DZ a:=by funext q;unfold F7 DZ;rw [Vc]
theorem Pb(a:NfM)(k:Nat)(q:Int):(F7 a k q).length≤k:=Nat.le_trans (List.length_filter_le _ _) (List.length_take_le _ _)
theorem Pd{a:NfM}{k:Nat}{e:EdM}(he:a.edges[k]? =some e)(h1:a.has e.fr=true)(h2:a.has e.to=true):upd (F7 a k) e.fr (F7 a k e.fr++[e])=F7 a (k+1):=by
 funext q;unfold F7;rw [Bd he,Vp];by_cases hq:q=e.fr
 ·subst hq;rw [MN];simp [OZ,h1,h2]
 ·rw [QO hq];simp [OZ,h1,h2,Ne.symm hq]
theorem Qt{a:NfM}{k:Nat}{e:EdM}(he:a.edges[k]? =some e)(h:(a.has e.fr&&a.has e.to)=false):F7 a k=F7 a (k+1):=by
 funext q;unfold F7;rw [Bd he,Vp];simp [OZ,h]
theorem Ik{a:NfM}{q:Int}{e:EdM}:e∈DZ a q↔e∈a.edges∧a.has e.fr=true∧a.has e.to=true∧e.fr=q:=by
 unfold DZ OZ;simp [Vu,and_assoc]
theorem Tw{S:Nat→Prop}{H:Aa}{v:Value}{a:NfM}(hS:∀k,S k→k<H.size)(h:NfV S H v a):
  Ao Tryz.prog 63 #[v] H fun r H'=>∃mb m,r= .map (some mb)∧St H H' [pMQ C4 kI tEd 104 mb m (DZ a)]:=by
 have hr:=h.1;have hl:=h.2.1;refine Ao.of_vc Tryz.func63 rfl (Tryz.call63 _) (HF h fun ea ec he h1=>?_);subst he;intro p H1 hp hs1 hb1 ha1;have st1:=(St.nil H).box hp hs1 hb1 ha1;refine Nu (Ok:=C4) (enc:=kI) fun mb H2 hb2 hs2 hm2 ha2=>?_;have st2:=(st1.mapNewW hb2 hs2 hm2 ha2).mqNew (T:=tEd) (e:=104) 1 rfl;refine fa CC ?_;refine ld1 (v:=.slice ea a.edges.length ec) FI (by rw [(st2.blk 0 rfl).cell];rfl) trivial ?_;(conv=>whnf);refine AH.mk [10] (fun k:Nat=>[.int .i64 (k:Int)]) (fun k H5=>k≤a.edges.length∧∃m,St H H5 [pB 37 p (nfL a (.slice ea a.edges.length ec)),pMQ C4 kI tEd 104 mb m (F7 a k)]) (fun k _=>a.edges.length - k) ?_ ?_
 ·(conv=>whnf);exact⟨0,rfl,UZ _,_,st2⟩
 ·rintro k H5 junk ⟨hk,m,st⟩;refine AQ.mk (fun hz=>?_) (fun hz=>?_)<;>simp only [decide_eq_true_eq,decide_eq_false_iff_not]at hz
  ·obtain⟨e,he⟩:=Bw (l:=a.edges) (k:=k) (by omega);have hlen:=Pb a k e.fr;refine Al.run (ixr (i:=k) FB (h1.frame (st.old.mono hS)) he rfl ?_);rintro b6 o6 c6 hS6 hc6 ⟨rfl,hok⟩;refine ldN (cs:=edL e) ID hc6 trivial (Ag _ [.int .i64 0,.int .i64 0,.bool false,.int .u64 0,.int .u64 0,.int .u64 0,.int .u64 0] Fv rfl ?_);intro x H6 hx hs6 hb6 ha6;have st6:=st.box hx hs6 hb6 ha6;refine Ay (cs:=edL e) st6 2 rfl rfl (UO _) rfl fun H7 st7=>?_;rw [Ae (show(edL e).length=7 from rfl)]at st7;have hbx:=st7.blk 2 rfl;have h17:=h1.frame (st7.old.mono hS);refine Dh hr hl (st7.blk 0 rfl) Ek trivial h17 fun v8 hv8=>(fa Fi ?_);refine ld1 (v:=.int .i64 e.fr) ct3 (by rw [hbx.cell];rfl) trivial ?_;refine Af (JH hv8) fun H8 ha8=>?_;have st8:=st7.call ha8;have skip:∀{H':Aa},(a.has e.fr&&a.has e.to)=false→St H H' [pB 37 p (nfL a (.slice ea a.edges.length ec)),pMQ C4 kI tEd 104 mb m (F7 a k),pB 104 x (edL e)]→
     ∃y:Nat,[Value.int .i64 ((k:Int)+1)]=[.int .i64 (y:Int)]∧(y≤a.edges.length∧∃m,St H H' [pB 37 p (nfL a (.slice ea a.edges.length ec)),pMQ C4 kI tEd 104 mb m (F7 a y)])∧a.edges.length - y<a.edges.length - k:=fun hno st'=>
    ⟨k+1,by simp,⟨by omega,m,by rw [←Qt he hno];exact st'.pick [0,1] (by decide)⟩,by omega⟩
   cases hfr:a.has e.fr with
   | false=>
     (conv=>whnf);rw [w64 (x:=(k:Int)+1) (by omega) (by omega)];exact⟨rfl,skip (by rw [hfr];rfl) st8⟩
   | true=>
     have hb8:=st8.blk 2 rfl;have h18:=h1.frame (st8.old.mono hS);refine Dh hr hl (st8.blk 0 rfl) Ek trivial h18 fun v9 hv9=>(fa Fj ?_);refine ld1 (v:=.int .i64 e.to) ct3 (by rw [hb8.cell];rfl) trivial ?_;refine Af (JH hv9) fun H9 ha9=>?_;have st9:=st8.call ha9;cases hto:a.has e.to with
     | false=>
       (conv=>whnf);rw [w64 (x:=(k:Int)+1) (by omega) (by omega)];exact⟨rfl,skip (by rw [hfr,hto];rfl) st9⟩
     | true=>
       have hb9:=st9.blk 2 rfl;obtain⟨-,-,-,hself⟩:=st9.at_ 1 rfl;have hbl:x<H9.size∧¬slB (DR m e.fr) x:=⟨(st9.in_ 2 rfl rfl).2,fun hs=>st9.apart2 (i:=1) (j:=2) rfl rfl (by decide) x (.inr ⟨e.fr,hs⟩) rfl⟩;refine As.heldZ (fun k=>k<H9.size∧¬slB (DR m e.fr) k) [10] (sq [0,1,2,3,4,5,6,7] (.f 8 (.f 9 (.f 10 .e)))) rfl (by kernel_rfl) (fa Fi ?_);refine ld1 (v:=.int .i64 e.fr) ct3 (by rw [hb9.cell];rfl) hbl ?_;refine fa Fi ?_;refine ld1 (v:=.int .i64 e.fr) ct3 (by rw [hb9.cell];rfl) hbl ?_;refine Nt Oq Hm trivial (st9.mqMap 1 rfl) ⟨(st9.in_ 1 rfl (.inl rfl)).2,hself e.fr⟩ ?_;refine ldN (cs:=edL e) ID (hb9.cells fun j v hv=>by rw [UR];exact hv) hbl ?_;refine AM FB (edL e) rfl rfl (by decide) (by decide) ?_;intro y H10 hy hs10 hb10 ha10;refine⟨ha10.mono fun k hk=>by have:=hk.1;omega,?_⟩;have st10:=(st9.skip hy ha10).mqOut 1 rfl e.fr;refine TF (ys:=[e]) st10 1 FB rfl (hb10.cells (o:=0) (cs:=edL e) fun j v hv=>by rw [UR];exact hv) (Ty.reps_one ⟨rfl,hok⟩) rfl (fun u hu=>UY.1 (FJ e) u hu) (by simp;unfold maxLen;omega) (by simp;omega) fun v11 H11 st11 ha11=>?_;refine⟨(ha10.mono fun k hk=>by have:=hk.1;omega).trans (ha11.mono fun k hk=>⟨by have:=hk.1;omega,hk.2⟩),?_⟩;refine SV st11 1 Oq Hm trivial rfl fun m' H12 st12=>?_;rw [Pd he hfr hto]at st12;(conv=>whnf);rw [w64 (x:=(k:Int)+1) (by omega) (by omega)];exact⟨rfl,k+1,by simp,⟨by omega,m',st12.pick [0,1] (by decide)⟩,by omega⟩
  ·obtain rfl:k=a.edges.length:=by omega
   rw [Pa]at st;(conv=>whnf);exact⟨mb,m,rfl,st.pick [1] (by decide)⟩
structure LM(B:Nat→Prop)(H0:Aa)(mb:Nat)(a:NfM):Prop where
 ex:∃m,Gm C4 kI H0 mb m∧∀q,∃ad cap,DR m q= .slice ad (DZ a q).length cap∧SlD tEd B H0 ad cap (DZ a q)
 at_:B mb
theorem LM.ofSt{B:Nat→Prop}{H0 H:Aa}{ps:List Pc}{mb:Nat}{m:Int→Option Value}{a:NfM}(st:StB B H0 H ps)(i:Nat)(hp:ps[i]? =some (pMQ C4 kI tEd 104 mb m (DZ a))):LM (Old H) H mb a:=
 ⟨⟨m,st.mqMap i hp,fun q=>st.mqView i hp q⟩,(st.in_ i hp (.inl rfl)).2⟩
structure T8(a:NfM)(X:PS)(q:Int)(Y:PS):Prop where
 sub:∀p,X p→Y p
 own:Y q
 new:∀p,Y p→X p∨Iv a q p
 shut:∀p,Y p→¬X p→∀e∈a.edges,e.sil=true→e.fr=p→a.has e.to=true→Y e.to
open Classical in
noncomputable def mss(X:PS):Nat:=(Kj fun p=>¬X p).length
theorem PZ{p q:Int→Bool}:∀(l:List Int),(∀x,p x=true→q x=true)→(l.filter p).length≤(l.filter q).length
 | [],_=>UO _
 | x::l,h=>by
   have ih:=PZ l h;cases hp:p x with
   | true=>rw [US hp,US (h x hp),UM,UM];omega
   | false=>
     rw [UU (by rw [hp];decide)];cases hq:q x with
     | true=>rw [US hq,UM];omega
     | false=>rw [UU (by rw [hq];decide)];exact ih
theorem Qa{p q:Int→Bool}{y:Int}:∀(l:List Int),(∀x,p x=true→q x=true)→y∈l→p y=false→q y=true→(l.filter p).length<(l.filter q).length
 | [],_,hy,_,_=>by cases hy
 | x::l,h,hy,h1,h2=>by
   have le:=PZ l h;by_cases hxy:x=y
   ·subst hxy;rw [UU (by rw [h1];decide),US h2,UM];omega
   ·have hyl:y∈l:=by
     rcases Vf.1 hy with e | e
     ·exact absurd e.symm hxy
     ·exact e
    have ih:=Qa l h hyl h1 h2;cases hp:p x with
    | true=>rw [US hp,US (h x hp),UM,UM];omega
    | false=>
      rw [UU (by rw [hp];decide)];cases hq:q x with
      | true=>rw [US hq,UM];omega
      | false=>rw [UU (by rw [hq];decide)];exact ih
theorem SX{X Y:PS}{q:Int}(h:∀p,X p→Y p)(h0:0≤q)(h1:q<65536)(hx:¬X q)(hy:Y q):mss Y<mss X:=by
 unfold mss Kj;refine Qa (y:=q) _ (fun p hp=>?_) (List.mem_map.2 ⟨q.toNat,List.mem_range.2 (by omega),by omega⟩) ?_ ?_
 ·simp only [decide_eq_true_eq]at hp ⊢;exact fun hx=>hp (h p hx)
 ·simp [hy]
 ·simp [hx]
theorem Jg{mm:Int→Option Value}{q:Int}{v:Value}(p:Int):Dom (put mm q (some v)) p↔Dom mm p∨p=q:=by
 unfold Dom;by_cases h:p=q
 ·subst h;rw [F9];simp
 ·rw [HI h];simp [h]
theorem MA{B:Nat→Prop}{H0:Aa}{a:NfM}{mb:Nat}(hf:LM B H0 mb a)(hst:a.st≤65536):
  ∀(n:Nat) {H:Aa} {rest:List Pc} {nb:Nat} {mm:Int→Option Value} {q:Int} (st:StB B H0 H (pMW C4 kI nb mm::rest)),a.has q=true→mss (Dom mm)<n→
   Ao Tryz.prog 65 #[.map (some mb),.map (some nb),.int .i64 q] H fun _ H'=>∃mm',StB B H0 H' (pMW C4 kI nb mm'::rest)∧T8 a (Dom mm) q (Dom mm'):=fun n=>by
 induction n with
 | zero=>intro H rest nb mm q st hq hn;omega
 | succ n ih=>
   intro H rest nb mm q st hq hn;have hqr:=NfM.has_iff.1 hq;obtain⟨m,hmap,hview⟩:=hf.ex;obtain⟨ad,cap,hsl,hd⟩:=hview q;refine Ao.of_vc Tryz.func65 rfl (Tryz.call65 _) (Ql (a:=q) Ot Hm trivial (st.mapW 0 rfl) trivial ?_);cases hmq:(mm q).isSome with
   | true=>
     (conv=>whnf);exact⟨mm,st,fun p hp=>hp,hmq,fun p hp=>.inl hp,fun p hp hn=>absurd hp hn⟩
   | false=>
     have hnq:¬Dom mm q:=by unfold Dom;rw [hmq];decide
     refine SU (a:=q) st 0 Ot Hm trivial rfl rfl fun H1 st1=>(Nt (a:=q) (m:=m) Oq Hm trivial (hmap.agr st1.old hf.at_) trivial ?_);have e1:(m q).getD (.slice none 0 0)= .slice ad (DZ a q).length cap:=hsl;rw [e1];(conv=>whnf);refine AH.mk [23] (fun k:Nat=>[.int .i64 (k:Int)]) (fun k H5=>k≤(DZ a q).length∧∃my,StB B H0 H5 (pMW C4 kI nb my::rest)∧(∀p,Dom mm p→Dom my p)∧Dom my q∧(∀p,Dom my p→Dom mm p∨Iv a q p)∧
      (∀p,Dom my p→¬Dom mm p→p≠q→∀e∈a.edges,e.sil=true→e.fr=p→a.has e.to=true→Dom my e.to)∧∀e∈(DZ a q).take k,e.sil=true→Dom my e.to) (fun k _=>(DZ a q).length - k) ?_ ?_
     ·(conv=>whnf);refine⟨0,rfl,UZ _,_,st1,fun p hp=>(Jg p).2 (.inl hp),(Jg q).2 (.inr rfl),fun p hp=>?_,fun p hp hno hpq=>?_,fun e he=>by cases he⟩
      ·rcases(Jg p).1 hp with h | rfl
       ·exact .inl h
       ·exact .inr (.refl _)
      ·rcases(Jg p).1 hp with h | h
       ·exact absurd h hno
       ·exact absurd h hpq
     ·rintro k H5 junk ⟨hk,my,st5,hsub,hown,hnew,hshut,hdone⟩;have hd5:=hd.frame st5.old;refine AQ.mk (fun hz=>?_) (fun hz=>?_)<;>simp only [decide_eq_true_eq,decide_eq_false_iff_not]at hz
      ·obtain⟨e,he⟩:=Bw (l:=DZ a q) (k:=k) (by omega);obtain⟨he1,he2,he3,he4⟩:=Ik.1 (Vb he);have hlen:=hd5.le;unfold maxLen at hlen;refine Al.run (ixr (i:=k) FB hd5 he rfl ?_);rintro b6 o6 c6 hS6 hc6 ⟨rfl,hok⟩;refine ldN (cs:=edL e) ID hc6 trivial (Ag _ [.int .i64 0,.int .i64 0,.bool false,.int .u64 0,.int .u64 0,.int .u64 0,.int .u64 0] Fv rfl ?_);intro x H6 hx hs6 hb6 ha6;have st6:StB B H0 H6 (pB 104 x _::pMW C4 kI nb my::rest):=(st5.box hx hs6 hb6 ha6).perm (UP _ _);refine Ay (cs:=edL e) st6 0 rfl rfl (UO _) rfl fun H7 st7=>?_;rw [Ae (show(edL e).length=7 from rfl)]at st7;have hbx:=st7.blk 0 rfl;have st7':StB B H0 H7 (pMW C4 kI nb my::rest):=st7.sub (UW _ _);refine fa HX ?_;refine ld1 (v:=.bool e.sil) ct4 (by rw [hbx.cell];rfl) trivial ?_;cases hes:e.sil with
       | false=>
         (conv=>whnf);rw [w64 (x:=(k:Int)+1) (by omega) (by omega)];refine⟨rfl,k+1,by simp,⟨by omega,my,st7',hsub,hown,hnew,hshut,fun e' he' hs'=>?_⟩,by omega⟩;rw [Bd he,UQ,UT]at he';rcases he' with he' | rfl
         ·exact hdone e' he' hs'
         ·rw [hes]at hs';cases hs'
       | true=>
         refine fa Fj ?_;refine ld1 (v:=.int .i64 e.to) ct3 (by rw [hbx.cell];rfl) trivial ?_;have hlt:mss (Dom my)<n:=by
          have:=SX hsub hqr.1 (by omega) hnq hown;omega
         refine Ai.mk (ih st7' he3 hlt) ?_;rintro _ H8 ⟨mz,st8,hz1⟩;(conv=>whnf);rw [w64 (x:=(k:Int)+1) (by omega) (by omega)];have hstep:Iv a q e.to:=by
          have h0:Iv a q e.fr:=by rw [he4];exact .refl q
          exact .step h0 he1 hes he3
         refine⟨rfl,k+1,by simp,⟨by omega,mz,st8,fun p hp=>hz1.sub p (hsub p hp),hz1.sub q hown,fun p hp=>?_,fun p hp hno hpq=>?_,fun e' he' hs'=>?_⟩,by omega⟩
         ·rcases hz1.new p hp with h | h
          ·exact hnew p h
          ·exact .inr (hstep.trans h)
         ·by_cases hy:Dom my p
          ·exact fun e' h1 h2 h3 h4=>hz1.sub _ (hshut p hy hno hpq e' h1 h2 h3 h4)
          ·exact hz1.shut p hp hy
         ·rw [Bd he,UQ,UT]at he';rcases he' with he' | rfl
          ·exact hz1.sub _ (hdone e' he' hs')
          ·exact hz1.own
      ·obtain rfl:k=(DZ a q).length:=by omega
       rw [Vc]at hdone;(conv=>whnf);refine⟨my,st5,hsub,hown,hnew,fun p hp hno=>?_⟩;by_cases hpq:p=q
       ·subst hpq;exact fun e h1 h2 h3 h4=>hdone e (Ik.2 ⟨h1,by rw [h3];exact hq,h4,h3⟩) h2
       ·exact hshut p hp hno hpq
theorem MJ{a:NfM}{X Y:PS}{q:Int}(h:T8 a X q Y)(hX:HT a X):HT a Y:=fun e h1 h2 h3 h4=>by
 by_cases hx:X e.fr
 ·exact h.sub _ (hX e h1 h2 h3 hx)
 ·exact h.shut _ h4 hx e h1 h2 rfl h3
theorem SP{B:Nat→Prop}{H0 H:Aa}{nb:Nat}{ps:List Pc}{K:Value→Aa→Prop}(st:StB B H0 H ps)
  (k:∀bx H',StB B H0 H' (ps++[pB 149 bx [.map (some nb)]])→K (.func (.func 90) #[] #[.pointer (some ⟨bx,0,none⟩)]) H'):
  Ai Tryz.prog 68 #[.map (some nb)] H K:=by
 refine Ai.mk (R:=fun v H'=>∃bx,v= .func (.func 90) #[] #[.pointer (some ⟨bx,0,none⟩)]∧StB B H0 H' (ps++[pB 149 bx [.map (some nb)]])) ?_ ?_
 ·refine Ao.of_vc Tryz.func68 rfl (Tryz.call68 _) (BM [.map (some nb)] rfl ?_);intro b1 H1 hb1 hs1 hk1 ha1;have st1:=st.box hb1 hs1 hk1 ha1;(conv=>whnf);exact⟨b1,rfl,st1⟩
 ·rintro _ H' ⟨b1,rfl,st'⟩;exact k b1 H' st'
theorem RI{S:Nat→Prop}{H:Aa}{v:Value}{a:NfM}{s:ByteArray}(hS:∀k,S k→k<H.size)(h:NfV S H v a)(hs:s.size≤maxLen):
  Ao Tryz.prog 41 #[v,.string s] H fun r H'=>Agr (Old H) H H'∧∃ra rc,r= .slice ra (Pi a (byN s)).length rc∧SlO tIk none_ H' H.size 3 (.slice ra (Pi a (byN s)).length rc) (Pi a (byN s)):=by
 have hr:=h.1;have hl:=h.2.1;unfold maxLen at hs;refine Ao.of_vc Tryz.func41 rfl (Tryz.call41 _) (HF h fun ea ec he h1=>?_);subst he;intro p H1 hp hs1 hb1 ha1;have st1:=(St.nil H).box hp hs1 hb1 ha1;refine Dh hr hl (st1.blk 0 rfl) Ek trivial (h1.frame (st1.old.mono hS)) fun v1 hv1=>(Ai.mk (Tw (fun k hk=>st1.up (hS k hk)) hv1) ?_);rintro _ H2 ⟨mb,m0,rfl,stw⟩;have st2:=st1.addSt stw;have hf:LM (Old H2) H2 mb a:=LM.ofSt st2 1 rfl;have h02:=st2.old;have hb2:=st2.blk 0 rfl;have hbp:p<H2.size:=hb2.lt;have h12:=h1.frame (h02.mono hS);have hS2:∀k,S k→k<H2.size:=fun k hk=>A0 h02 (hS k hk);have hcl:∀{X:PS} {q:Int},(∀q,X q→a.has q=true)→X q→0≤q∧q<65536:=fun hX hq=>Jo hX _ hq;refine Nu (Ok:=C4) (enc:=kI) fun nb H3 hb3 hs3 hm3 ha3=>?_;have st3:St H2 H3 [pMW C4 kI nb fun _=>none]:=(St.nil H2).mapNewW hb3 hs3 hm3 ha3;have hb3':=hb2.agr st3.old hbp;refine Al.cut (α:=Nat) [6] (fun nb=>[.map (some nb)]) (fun nb H4=>∃mm,St H2 H4 [pMW C4 kI nb mm]∧∀q,Dom mm q↔PC a q) ?_ fun nb H4 junk4 hI4=>?_
 ·refine Dh hr hl hb3' Ek trivial (h12.frame (st3.old.mono hS2)) fun v4 hv4=>(fa Gs ?_);refine ld1 (v:=.int .i64 a.start) ct3 (by rw [hb3'.cell];rfl) trivial ?_;refine Af (JH hv4) fun H4 ha4=>?_;have st4:=st3.call ha4;have hb4:=hb2.agr st4.old hbp;cases hst:a.has a.start with
  | false=>
    (conv=>whnf);refine⟨rfl,nb,rfl,_,st4,fun q=>⟨fun hq=>(by cases hq),fun hq=>?_⟩⟩;obtain⟨r,⟨-,h2⟩,-⟩:=hq;rw [hst]at h2;cases h2
  | true=>
    refine fa Gs ?_;refine ld1 (v:=.int .i64 a.start) ct3 (by rw [hb4.cell];rfl) trivial ?_;refine Ai.mk (MA hf (NfM.has_iff.1 hst).2.2 _ st4 hst (Vs _)) ?_;rintro _ H5 ⟨mm,st5,hstl⟩;(conv=>whnf);refine⟨rfl,nb,rfl,mm,st5,fun q=>⟨fun hq=>?_,fun hq=>?_⟩⟩
    ·rcases hstl.new q hq with h | h
     ·cases h
     ·exact⟨a.start,⟨rfl,hst⟩,h⟩
    ·exact Fz (Y:=Dom mm) (fun r hr=>by rw [hr.1];exact hstl.own) (MJ hstl fun e _ _ _ h=>by cases h) q hq
 obtain⟨mm4,st4,hmm4⟩:=hI4;(conv=>whnf);refine AH.mk [6,26] (fun x:Nat×Nat=>match x with | (i,nb)=>[.map (some nb),.int .i64 (i:Int)]) (fun x H5=>x.1≤s.size∧∃mm,St H2 H5 [pMW C4 kI x.2 mm]∧∀q,Dom mm q↔JR a ((byN s).take x.1) q) (fun x _=>s.size - x.1) ?_ ?_
 ·(conv=>whnf);exact⟨(0,nb),rfl,UZ _,mm4,st4,hmm4⟩
 ·rintro⟨i,nb5⟩ H5 junk5 ⟨hi,mm5,st5,hmm5⟩;simp only at hi st5 hmm5;refine AQ.mk (fun hz=>?_) (fun hz=>?_)<;>simp only [decide_eq_true_eq,decide_eq_false_iff_not]at hz
  ·obtain⟨b,hb⟩:=SJ (s:=s) (k:=i) (by omega);have hX:∀q,Dom mm5 q→a.has q=true:=fun q hq=>Ip a _ q ((hmm5 q).1 hq);refine Nu (Ok:=C4) (enc:=kI) fun nx H6 hb6 hs6 hm6 ha6=>?_;have st6:=st5.mapNewW hb6 hs6 hm6 ha6;refine Ou st6 0 Ot rfl fun r n H7 st7=>?_;(conv=>whnf);refine AH.mk [] (fun _:Nat=>[]) (fun n H8=>∃D last my,St H2 H8 [pIW C4 kI nb5 r mm5 D last n,pMW C4 kI nx my]∧(∀q,D q→Dom mm5 q)∧(∀q,Dom my q→goS a (Dom mm5) b.toNat q)∧HT a (Dom my)∧
    ∀q,D q→∀e∈DZ a q,e.sil=false→e.set.getLsbD b.toNat=true→Dom my e.to) (fun n _=>n) ?_ ?_
   ·(conv=>whnf);exact⟨n,rfl,_,none,_,st7,fun q h=>h.elim,(fun q h=>by cases h),(fun e _ _ _ h=>by cases h),fun q h=>h.elim⟩
   ·rintro n8 H8 junk8 ⟨D,last,my,st8,hD,hgo,hsh,hall⟩;refine Qm st8 0 Hm.inj rfl (fun hend=>?_) fun q vq H9 n9 hq hnD hlt st9=>?_
    ·(conv=>whnf);rw [w64 (x:=(i:Int)+1) (by omega) (by omega)];refine⟨rfl,(i+1,nx),by simp,⟨by simp only;omega,my,(st8.pick [1] (by decide)),fun q=>?_⟩,by simp only;omega⟩;simp only;rw [Bd (KX hb),KA,←Rw hmm5];refine⟨hgo q,fun hq=>Fz (Y:=Dom my) (fun t ht=>?_) hsh q hq⟩;obtain⟨e,h1,h2,h3,h4,h5,rfl⟩:=ht;exact hall e.fr (hend _ h4) e (Ik.2 ⟨h1,hX _ h4,h5,rfl⟩) h2 h3
    ·have hdq:Dom mm5 q:=by unfold Dom;rw [hq];rfl
     obtain⟨m,hmap,hview⟩:=hf.ex;obtain⟨ad,cap,hsl,hd⟩:=hview q;refine Sy (st9.iterW 0 rfl) Hm.inj hq (Nt (a:=q) (m:=m) Oq Hm trivial (hmap.agr st9.old hf.at_) trivial ?_);have e1:(m q).getD (.slice none 0 0)= .slice ad (DZ a q).length cap:=hsl;rw [e1];(conv=>whnf);refine AH.mk [40] (fun k:Nat=>[.int .i64 (k:Int)]) (fun k H10=>k≤(DZ a q).length∧∃my,St H2 H10 [pIW C4 kI nb5 r mm5 (fun x=>D x∨x=q) (some q) n9,pMW C4 kI nx my]∧(∀q,Dom my q→goS a (Dom mm5) b.toNat q)∧HT a (Dom my)∧
      (∀q,D q→∀e∈DZ a q,e.sil=false→e.set.getLsbD b.toNat=true→Dom my e.to)∧∀e∈(DZ a q).take k,e.sil=false→e.set.getLsbD b.toNat=true→Dom my e.to) (fun k _=>(DZ a q).length - k) ?_ ?_
     ·(conv=>whnf);exact⟨0,rfl,UZ _,my,st9,hgo,hsh,hall,fun e he=>by cases he⟩
     ·rintro k H10 junk10 ⟨hk,my,st10,hgo,hsh,hall,hdone⟩;have hd10:=hd.frame st10.old;refine AQ.mk (fun hz2=>?_) (fun hz2=>?_)<;>simp only [decide_eq_true_eq,decide_eq_false_iff_not]at hz2
      ·obtain⟨e,he⟩:=Bw (l:=DZ a q) (k:=k) (by omega);obtain⟨he1,he2,he3,he4⟩:=Ik.1 (Vb he);have hlen:=hd10.le;unfold maxLen at hlen;refine Al.run (ixr (i:=k) FB hd10 he rfl ?_);rintro b6 o6 c6 hS6 hc6 ⟨rfl,hok⟩;refine ldN (cs:=edL e) ID hc6 trivial (Ag _ [.int .i64 0,.int .i64 0,.bool false,.int .u64 0,.int .u64 0,.int .u64 0,.int .u64 0] Fv rfl ?_);intro x H11 hx hs11 hb11 ha11;have st11:=st10.box hx hs11 hb11 ha11;refine Ay (cs:=edL e) st11 2 rfl rfl (UO _) rfl fun H12 st12=>?_;rw [Ae (show(edL e).length=7 from rfl)]at st12;have hbx:=st12.blk 2 rfl;have hxl:=(st12.in_ 2 rfl rfl).2;have fin:∀{H':Aa} {mz:Int→Option Value},St H2 H' [pIW C4 kI nb5 r mm5 (fun x=>D x∨x=q) (some q) n9,pMW C4 kI nx mz]→(∀q,Dom my q→Dom mz q)→(∀q,Dom mz q→goS a (Dom mm5) b.toNat q)→HT a (Dom mz)→(e.sil=false→e.set.getLsbD b.toNat=true→Dom mz e.to)→
         ∃y:Nat,[Value.int .i64 ((k:Int)+1)]=[Value.int .i64 (y:Int)]∧(y≤(DZ a q).length∧∃my,St H2 H' [pIW C4 kI nb5 r mm5 (fun x=>D x∨x=q) (some q) n9,pMW C4 kI nx my]∧(∀q,Dom my q→goS a (Dom mm5) b.toNat q)∧HT a (Dom my)∧
          (∀q,D q→∀e∈DZ a q,e.sil=false→e.set.getLsbD b.toNat=true→Dom my e.to)∧∀e∈(DZ a q).take y,e.sil=false→e.set.getLsbD b.toNat=true→Dom my e.to)∧(DZ a q).length - y<(DZ a q).length - k:=fun{H' mz} t1 t2 t3 t4 t5=>by
        refine⟨k+1,by simp,⟨by omega,mz,t1,t3,t4,fun q' h1 e' h2 h3 h4=>t2 _ (hall q' h1 e' h2 h3 h4),fun e' he' h3 h4=>?_⟩,by omega⟩;rw [Bd he,UQ,UT]at he';rcases he' with he' | rfl
        ·exact t2 _ (hdone e' he' h3 h4)
        ·exact t5 h3 h4
       have w1:IntKind.wrap .i64 ((k:Int)+1)=(k:Int)+1:=w64 (by omega) (by omega);refine As.quiet (Old H12) rfl (by kernel_rfl) (fa HX ?_);refine ld1 (v:=.bool e.sil) ct4 (by rw [hbx.cell];rfl) hxl ?_;cases hes:e.sil with
       | true=>
         (conv=>whnf);intro H13 ha13;have st13:=st12.call ha13;(conv=>whnf);rw [w1];exact⟨rfl,fin (st13.pick [0,1] (by decide)) (fun _ h=>h) hgo hsh fun h=>by rw [hes]at h;cases h⟩
       | false=>
         refine fa Jh (ldN (cs:=Ak e.set) B0 (hbx.cells fun j v hv=>HW e j v hv) hxl (CS Tryz.underlying9 rfl hb (Q1 (fun H' ha'=>Ol e.set b.toNat (UInt8.toNat_lt b) H') ?_)));cases hbit:e.set.getLsbD b.toNat with
         | false=>
           (conv=>whnf);intro H13 ha13;have st13:=st12.call ha13;(conv=>whnf);rw [w1];exact⟨rfl,fin (st13.pick [0,1] (by decide)) (fun _ h=>h) hgo hsh fun _ h=>by rw [hbit]at h;cases h⟩
         | true=>
           (conv=>whnf);intro H13 ha13;have st13:=st12.call ha13;refine fa Fj ?_;refine ld1 (v:=.int .i64 e.to) ct3 (by rw [(st13.blk 2 rfl).cell];rfl) trivial ?_;refine Ai.mk (MA hf (NfM.has_iff.1 he3).2.2 _ (st13.pick [1,0] (by decide):St H2 H13 [pMW C4 kI nx my,pIW C4 kI nb5 r mm5 (fun x=>D x∨x=q) (some q) n9]) he3 (Vs _)) ?_;rintro _ H14 ⟨mz,st14,hstl⟩;(conv=>whnf);rw [w1];refine⟨rfl,fin (st14.pick [1,0] (by decide)) hstl.sub (fun t ht=>?_) (MJ hstl hsh) fun _ _=>hstl.own⟩;rcases hstl.new t ht with h | h
           ·exact hgo t h
           ·exact⟨e.to,⟨e,he1,hes,hbit,by rw [he4];exact hdq,he3,rfl⟩,h⟩
      ·obtain rfl:k=(DZ a q).length:=by omega
       rw [Vc]at hdone;(conv=>whnf);refine⟨rfl,n9,rfl,⟨_,_,my,st10,fun t ht=>?_,hgo,hsh,fun t ht=>?_⟩,hlt⟩
       ·rcases ht with h | rfl
        ·exact hD t h
        ·exact hdq
       ·rcases ht with h | rfl
        ·exact hall t h
        ·exact hdone
  ·obtain rfl:i=s.size:=by omega
   rw [Vk (by rw [KY];exact UO _)]at hmm5;have hX:∀q,Dom mm5 q→a.has q=true:=fun q hq=>Ip a _ q ((hmm5 q).1 hq);refine SP st5 fun bx H6 st6=>(Ai.mk (LD (fun q hq=>Jo hX q hq) st6) ?_);rintro _ H7 ⟨ks,ra,rc,rfl,hsrt,hin,st7⟩;(conv=>whnf);have hks:ks=Pi a (byN s):=OQ (Jo (Ip a (byN s))) hsrt fun q=>(hin q).trans (hmm5 q);subst hks;exact⟨h02.trans (st7.old.mono fun k hk=>A0 h02 hk),ra,rc,rfl,(St.own st7 0 rfl).lower (DI h02)⟩
end Go.Proofs.YtlnmhfhdjnenoaaGreatDoor
namespace Go.VC
section
variable{α:Type}{T:Ty α}{e:TypeId}{a:Option Addr}{n cap:Nat}{xs ys:List α}{B S:Nat→Prop}{H0 H:Aa}{ps:List Pc}
end
end Go.VC
namespace Go.Proofs.YtlnmhfhdjnenoaaGreatDoor
open Go.VC
structure GthR(a:NfM)(L out:List Int):Prop where
 nd:out.Nodup
 sub:∀q∈L,q∈out
 cl:∀q∈out,clS a (·∈L) q
theorem P6{a:NfM}{s:List Nat}:decide (a.fin∈Pi a s)=Ke a s:=by
 have:=J6 a s;have h2:=Q4 a s a.fin;cases h:Ke a s with
 | true=>exact decide_eq_true (h2.2 (this.1 h))
 | false=>exact decide_eq_false fun hm=>by rw [this.2 (h2.1 hm)]at h;cases h
theorem Qg(x:Int)(H:Aa):Bv Tryz.prog 87 #[.int .i64 x] H (.bool false):=by
 refine Ao.of_vc Tryz.func87 rfl (Tryz.call87 _) ?_;have d:(x != x)=false:=by simp
 (conv=>whnf);exact⟨by rw [d],Agr.refl _ _⟩
theorem Qh(x:Int)(H:Aa):Bv Tryz.prog 62 #[.int .i64 x] H (.bool false):=by
 refine Ao.of_vc Tryz.func62 rfl (Tryz.call62 _) ?_;have d:(x != x)=false:=by simp
 (conv=>whnf);exact⟨by rw [d],Agr.refl _ _⟩
theorem ST(x y:Int)(H:Aa):Bv Tryz.prog 61 #[.int .i64 x,.int .i64 y] H (.bool (decide (x<y))):=by
 refine Ao.of_vc Tryz.func61 rfl (Tryz.call61 _) (Af (Qg x H) fun H1 ha1=>?_);(conv=>whnf);exact⟨rfl,ha1⟩
theorem LE{xs:List Int}(h:xs.Pairwise (·<·)){i j:Nat}{x y:Int}(hij:i<j)(hx:xs[i]? =some x)(hy:xs[j]? =some y):x<y:=by
 obtain⟨h1,e1⟩:=UV.1 hx;obtain⟨h2,e2⟩:=UV.1 hy;have:=List.pairwise_iff_getElem.1 h i j h1 h2 hij;rw [e1,e2]at this;exact this
theorem OF{S:Nat→Prop}{H:Aa}{a:Option Addr}{c:Nat}{xs:List Int}{t:Int}(hS:∀k,S k→k<H.size)(h:SlD tIk S H a c xs)(hsrt:xs.Pairwise (·<·))(hlen:xs.length≤65536):
  Ao Tryz.prog 40 #[.slice a xs.length c,.int .i64 t] H fun r H'=>Agr (Old H) H H'∧∃i:Nat,r= .tuple #[.int .i64 (i:Int),.bool (decide (t∈xs))]:=by
 refine Ao.of_vc Tryz.func40 rfl (Tryz.call40 _) ?_;(conv=>whnf);refine AH.mk [7,8] (fun x:Nat×Nat=>match x with | (i,j)=>[.int .i64 (i:Int),.int .i64 (j:Int)]) (fun x H2=>x.1≤x.2∧x.2≤xs.length∧(∀k y,k<x.1→xs[k]? =some y→y<t)∧(∀k y,x.2≤k→xs[k]? =some y→t≤y)∧Agr (Old H) H H2) (fun x _=>x.2 - x.1) ?_ ?_
 ·(conv=>whnf);exact⟨(0,xs.length),rfl,UZ _,UO _,(fun k y h=>by omega),(fun k y h1 h2=>by have:=(UV.1 h2).1;omega),Agr.refl _ _⟩
 ·rintro⟨i,j⟩ H2 junk ⟨hij,hj,hlo,hhi,ha⟩;simp only at hij hj hlo hhi ha;have hd:=h.frame (ha.mono hS);refine AQ.mk (fun hz=>?_) (fun hz=>?_)<;>simp only [decide_eq_true_eq,decide_eq_false_iff_not]at hz
  ·obtain⟨m,hm⟩:∃m,m=(i+j) / 2:=⟨_,rfl⟩;have e1:IntKind.wrap .i64 ((i:Int)+(j:Int))=((i+j:Nat):Int):=by rw [w64 (by omega) (by omega)];omega
   have e2:IntKind.wrap .u64 (((i+j:Nat):Int))=((i+j:Nat):Int):=DO (k:=.u64) (Fk (by omega));have e3:IntKind.wrap .i64 (((i+j:Nat) / 2 ^ 1:Nat):Int)=(m:Int):=by rw [w64 (by omega) (by omega),hm]
   obtain⟨y,hy⟩:=Bw (l:=xs) (k:=m) (by omega);(conv=>whnf);rw [e1,e2];refine Hl (k:=.u64) (b:=1) (by decide) ?_;(conv=>whnf);rw [e3];refine ixr (i:=m) BU hd hy rfl ?_;rintro b3 o3 c3 hS3 hc3 ⟨rfl,-⟩;refine ld1 ct3 hc3.one trivial (Af (ST y t H2) fun H3 ha3=>?_);have h3:=ha.trans (ha3.mono fun k hk=>A0 ha hk);by_cases hlt:y<t
   ·have d1:decide (y<t)=true:=decide_eq_true hlt;(conv=>whnf);rw [d1];(conv=>whnf);rw [w64 (x:=(m:Int)+1) (by omega) (by omega)];refine⟨rfl,(m+1,j),by simp,⟨by simp only;omega,hj,fun k z hk hz=>?_,hhi,h3⟩,by simp only;omega⟩;by_cases hkm:k=m
    ·subst hkm;rw [hy]at hz;cases hz;exact hlt
    ·have:=LE hsrt (show k<m by omega) hz hy;omega
   ·have d1:decide (y<t)=false:=decide_eq_false hlt;(conv=>whnf);rw [d1];(conv=>whnf);refine⟨rfl,(i,m),rfl,⟨by simp only;omega,by simp only;omega,hlo,fun k z hk hz=>?_,h3⟩,by simp only;omega⟩;by_cases hkm:k=m
    ·subst hkm;rw [hy]at hz;cases hz;omega
    ·have:=LE hsrt (show m<k by omega) hy hz;omega
  ·obtain rfl:i=j:=by omega
   by_cases hin:i<xs.length
   ·have d0:decide ((i:Int)<(xs.length:Int))=true:=decide_eq_true (by omega);obtain⟨y,hy⟩:=Bw (l:=xs) (k:=i) hin;(conv=>whnf);rw [d0];refine ixr (i:=i) BU hd hy rfl ?_;rintro b3 o3 c3 hS3 hc3 ⟨rfl,-⟩;refine ld1 ct3 hc3.one trivial ?_;by_cases he:y=t
    ·have d1:(y==t)=true:=by rw [he];simp
     (conv=>whnf);rw [d1];(conv=>whnf);exact⟨ha,i,by rw [decide_eq_true (he ▸ Vb hy)]⟩
    ·have d1:(y==t)=false:=beq_eq_false_iff_ne.2 he;have hno:t∉xs:=fun hm=>by
      obtain⟨k,hk⟩:=Vm hm;rcases Nat.lt_trichotomy k i with h1 | h1 | h1
      ·have:=hlo k t h1 hk;omega
      ·subst h1;rw [hy]at hk;cases hk;exact he rfl
      ·have h5:=LE hsrt h1 hy hk;have:=hhi i y (UO _) hy;omega
     (conv=>whnf);rw [d1];refine ixr (i:=i) BU hd hy rfl ?_;rintro b4 o4 c4 hS4 hc4 ⟨rfl,-⟩;refine ld1 ct3 hc4.one trivial (Af (Qh y H2) fun H3 ha3=>?_);(conv=>whnf);exact⟨ha.trans (ha3.mono fun k hk=>A0 ha hk),i,by rw [decide_eq_false hno]⟩
   ·have d0:decide ((i:Int)<(xs.length:Int))=false:=decide_eq_false (by omega);have hno:t∉xs:=fun hm=>by
     obtain⟨k,hk⟩:=Vm hm;have h2:=(UV.1 hk).1;have:=hlo k t (by omega) hk;omega
    (conv=>whnf);rw [d0];(conv=>whnf);exact⟨ha,i,by rw [decide_eq_false hno]⟩
theorem Ks{S:Nat→Prop}{H:Aa}{v:Value}{a:NfM}{s:ByteArray}(hS:∀k,S k→k<H.size)(h:NfV S H v a)(hs:s.size≤maxLen):
  Bv Tryz.prog 13 #[v,.string s] H (.bool (Ke a (byN s))):=by
 have hr:=h.1;have hl:=h.2.1;refine Ao.of_vc Tryz.func13 rfl (Tryz.call13 _) (HF h fun ea ec he h1=>?_);subst he;intro p H1 hp hs1 hb1 ha1;have st1:=(St.nil H).box hp hs1 hb1 ha1;have hb:=st1.blk 0 rfl;have hpl:=hb.lt;refine As.heldZ (Old H1) [] (sq [0,1,3,4] (.f 2 (.f 5 (sq [6,7,8,9] (.f 10 .e))))) rfl (by kernel_rfl) (Dh hr hl hb Ek hpl (h1.frame (st1.old.mono hS)) fun v2 hv2=>(fa Gt ?_));refine ld1 (v:=.int .i64 a.fin) ct3 (by rw [hb.cell];rfl) hpl ?_;refine Ai.mk (RI (fun k hk=>st1.up (hS k hk)) hv2 hs) ?_;rintro _ H4 ⟨ha4,ra,rc,rfl,hown⟩;obtain⟨ra',rc',e4,st4⟩:=st1.got ha4 hown;injection e4 with e41 e42 e43
 subst e41;subst e43;refine⟨ha4,?_⟩;refine Ai.mk (OF (S:=Old H4) (t:=a.fin) (fun k hk=>hk) (st4.view 1 rfl) (Mu _) (Qk _)) ?_;rintro _ H5 ⟨ha5,i,rfl⟩;have st5:=st4.call ha5;have h15:Agr (Old H1) H1 H5:=ha4.trans (ha5.mono fun k hk=>A0 ha4 hk);refine⟨h15,?_⟩;(conv=>whnf);refine⟨h15,?_⟩;(conv=>whnf);exact⟨by rw [P6],st5.old⟩
def K1:ReM→TypeId
 | .eps=>127
 | .cls _=>130
 | .cat _ _=>132
 | .alt _ _=>163
 | .star _=>165
 | .and_ _ _=>166
 | .minus _ _=>167
def DE:ReM→Value
 | .eps=>.agg #[]
 | .cls s=>BT s
 | .cat a b=>.agg #[Ad a,Ad b]
 | .alt a b=>.agg #[Ad a,Ad b]
 | .star a=>.agg #[Ad a]
 | .and_ a b=>.agg #[Ad a,Ad b]
 | .minus a b=>.agg #[Ad a,Ad b]
theorem F3(r:ReM):Ad r= .iface (K1 r) (DE r):=by cases r<;>rfl
def FA:ReM→FuncId
 | .eps=>161
 | .cls _=>163
 | .cat _ _=>165
 | .alt _ _=>168
 | .star _=>170
 | .and_ _ _=>172
 | .minus _ _=>174
theorem Fb(r:ReM)(w:World):(callMethod (.iface (K1 r) (DE r)) "Size" #[]).run Tryz.prog w= .ok (.enter (FA r) #[DE r]) w:=by
 cases r with
 | eps=>exact Ns _ w
 | cls=>exact Nr _ w
 | cat=>exact Nq _ w
 | alt=>exact No _ w
 | star=>exact Mv _ w
 | and_=>exact Np _ w
 | minus=>exact Lz _ w
theorem Gb(r:ReM)(H:Aa):Bv Tryz.prog 166 #[Ad r] H (.iface (K1 r) (DE r)):=by
 rw [F3];refine Ao.of_vc Tryz.func166 rfl (Tryz.call166 _) (TX Tryz.underlying24 ?_);(conv=>whnf);exact⟨rfl,Agr.refl _ _⟩
theorem QD:∀(r:ReM),r.nodes≤1000000000→∀(H:Aa),Bv Tryz.prog (FA r) #[DE r] H (.int .i64 (r.nodes:Int)):=fun r=>by
 induction r with
 | eps=>
   intro hn H;refine Ao.of_vc Tryz.func161 rfl (Tryz.call161 _) (BM [] rfl ?_);intro x H1 hx hs1 hb1 ha1;have st1:=(St.nil H).box hx hs1 hb1 ha1;(conv=>whnf);exact⟨rfl,st1.old⟩
 | cls s=>
   intro hn H;refine Ao.of_vc Tryz.func163 rfl (Tryz.call163 _) (BM (Ak s) rfl ?_);intro x H1 hx hs1 hb1 ha1;have st1:=(St.nil H).box hx hs1 hb1 ha1;(conv=>whnf);exact⟨rfl,st1.old⟩
 | cat a b iha ihb=>
   intro hn H;simp only [ReM.nodes]at hn;refine Ao.of_vc Tryz.func165 rfl (Tryz.call165 _) (BM [Ad a,Ad b] rfl ?_);intro x H1 hx hs1 hb1 ha1;have st1:=(St.nil H).box hx hs1 hb1 ha1;have hxl:=hb1.lt;refine As.heldZ (Old H1) [] (sq [0,1,5,6] (.f 2 (.f 3 (sq [4] (.f 7 (.f 8 (sq [9] (.f 10 .e)))))))) rfl (by kernel_rfl) (fa Jk ?_);refine ld1 (v:=Ad a) C8 (by rw [hb1.cell];rfl) hxl ?_;refine fa HY ?_;refine ld1 (v:=Ad b) C8 (by rw [hb1.cell];rfl) hxl ?_;refine Af (Gb a H1) fun H2 ha2=>(⟨ha2,?_⟩);refine Hd.mk (FA a) #[DE a] (Fb a) (iha (by omega) H2) ?_;rintro _ H3 ⟨rfl,ha3⟩;have h13:=ha2.trans (ha3.mono fun k hk=>A0 ha2 hk);refine⟨h13,?_⟩;(conv=>whnf);rw [w64 (x:=1+(a.nodes:Int)) (by omega) (by omega)];refine Af (Gb b H3) fun H4 ha4=>?_;have h14:=h13.trans (ha4.mono fun k hk=>A0 h13 hk);refine⟨h14,?_⟩;refine Hd.mk (FA b) #[DE b] (Fb b) (ihb (by omega) H4) ?_;rintro _ H5 ⟨rfl,ha5⟩;have h15:=h14.trans (ha5.mono fun k hk=>A0 h14 hk);refine⟨h15,?_⟩;(conv=>whnf);rw [w64 (x:=1+(a.nodes:Int)+(b.nodes:Int)) (by omega) (by omega)];refine⟨h15,?_⟩;(conv=>whnf);exact⟨by simp only [ReM.nodes];simp,st1.old.trans (h15.mono fun k hk=>st1.up hk)⟩
 | alt a b iha ihb=>
   intro hn H;simp only [ReM.nodes]at hn;refine Ao.of_vc Tryz.func168 rfl (Tryz.call168 _) (BM [Ad a,Ad b] rfl ?_);intro x H1 hx hs1 hb1 ha1;have st1:=(St.nil H).box hx hs1 hb1 ha1;have hxl:=hb1.lt;refine As.heldZ (Old H1) [] (sq [0,1,5,6] (.f 2 (.f 3 (sq [4] (.f 7 (.f 8 (sq [9] (.f 10 .e)))))))) rfl (by kernel_rfl) (fa Jl ?_);refine ld1 (v:=Ad a) C8 (by rw [hb1.cell];rfl) hxl ?_;refine fa HZ ?_;refine ld1 (v:=Ad b) C8 (by rw [hb1.cell];rfl) hxl ?_;refine Af (Gb a H1) fun H2 ha2=>(⟨ha2,?_⟩);refine Hd.mk (FA a) #[DE a] (Fb a) (iha (by omega) H2) ?_;rintro _ H3 ⟨rfl,ha3⟩;have h13:=ha2.trans (ha3.mono fun k hk=>A0 ha2 hk);refine⟨h13,?_⟩;(conv=>whnf);rw [w64 (x:=1+(a.nodes:Int)) (by omega) (by omega)];refine Af (Gb b H3) fun H4 ha4=>?_;have h14:=h13.trans (ha4.mono fun k hk=>A0 h13 hk);refine⟨h14,?_⟩;refine Hd.mk (FA b) #[DE b] (Fb b) (ihb (by omega) H4) ?_;rintro _ H5 ⟨rfl,ha5⟩;have h15:=h14.trans (ha5.mono fun k hk=>A0 h14 hk);refine⟨h15,?_⟩;(conv=>whnf);rw [w64 (x:=1+(a.nodes:Int)+(b.nodes:Int)) (by omega) (by omega)];refine⟨h15,?_⟩;(conv=>whnf);exact⟨by simp only [ReM.nodes];simp,st1.old.trans (h15.mono fun k hk=>st1.up hk)⟩
 | star a iha=>
   intro hn H;simp only [ReM.nodes]at hn;refine Ao.of_vc Tryz.func170 rfl (Tryz.call170 _) (BM [Ad a] rfl ?_);intro x H1 hx hs1 hb1 ha1;have st1:=(St.nil H).box hx hs1 hb1 ha1;refine fa Jm ?_;refine ld1 (v:=Ad a) C8 (by rw [hb1.cell];rfl) trivial ?_;refine Af (Gb a H1) fun H2 ha2=>?_;have st2:=st1.call ha2;refine Hd.mk (FA a) #[DE a] (Fb a) (iha (by omega) H2) ?_;rintro _ H3 ⟨rfl,ha3⟩;have st3:=st2.call ha3;(conv=>whnf);rw [w64 (x:=1+(a.nodes:Int)) (by omega) (by omega)];(conv=>whnf);exact⟨by simp only [ReM.nodes];simp,st3.old⟩
 | and_ a b iha ihb=>
   intro hn H;simp only [ReM.nodes]at hn;refine Ao.of_vc Tryz.func172 rfl (Tryz.call172 _) (BM [Ad a,Ad b] rfl ?_);intro x H1 hx hs1 hb1 ha1;have st1:=(St.nil H).box hx hs1 hb1 ha1;have hxl:=hb1.lt;refine As.heldZ (Old H1) [] (sq [0,1,5,6] (.f 2 (.f 3 (sq [4] (.f 7 (.f 8 (sq [9] (.f 10 .e)))))))) rfl (by kernel_rfl) (fa Oa ?_);refine ld1 (v:=Ad a) C8 (by rw [hb1.cell];rfl) hxl ?_;refine fa Ob ?_;refine ld1 (v:=Ad b) C8 (by rw [hb1.cell];rfl) hxl ?_;refine Af (Gb a H1) fun H2 ha2=>(⟨ha2,?_⟩);refine Hd.mk (FA a) #[DE a] (Fb a) (iha (by omega) H2) ?_;rintro _ H3 ⟨rfl,ha3⟩;have h13:=ha2.trans (ha3.mono fun k hk=>A0 ha2 hk);refine⟨h13,?_⟩;(conv=>whnf);rw [w64 (x:=1+(a.nodes:Int)) (by omega) (by omega)];refine Af (Gb b H3) fun H4 ha4=>?_;have h14:=h13.trans (ha4.mono fun k hk=>A0 h13 hk);refine⟨h14,?_⟩;refine Hd.mk (FA b) #[DE b] (Fb b) (ihb (by omega) H4) ?_;rintro _ H5 ⟨rfl,ha5⟩;have h15:=h14.trans (ha5.mono fun k hk=>A0 h14 hk);refine⟨h15,?_⟩;(conv=>whnf);rw [w64 (x:=1+(a.nodes:Int)+(b.nodes:Int)) (by omega) (by omega)];refine⟨h15,?_⟩;(conv=>whnf);exact⟨by simp only [ReM.nodes];simp,st1.old.trans (h15.mono fun k hk=>st1.up hk)⟩
 | minus a b iha ihb=>
   intro hn H;simp only [ReM.nodes]at hn;refine Ao.of_vc Tryz.func174 rfl (Tryz.call174 _) (BM [Ad a,Ad b] rfl ?_);intro x H1 hx hs1 hb1 ha1;have st1:=(St.nil H).box hx hs1 hb1 ha1;have hxl:=hb1.lt;refine As.heldZ (Old H1) [] (sq [0,1,5,6] (.f 2 (.f 3 (sq [4] (.f 7 (.f 8 (sq [9] (.f 10 .e)))))))) rfl (by kernel_rfl) (fa Oc ?_);refine ld1 (v:=Ad a) C8 (by rw [hb1.cell];rfl) hxl ?_;refine fa Od ?_;refine ld1 (v:=Ad b) C8 (by rw [hb1.cell];rfl) hxl ?_;refine Af (Gb a H1) fun H2 ha2=>(⟨ha2,?_⟩);refine Hd.mk (FA a) #[DE a] (Fb a) (iha (by omega) H2) ?_;rintro _ H3 ⟨rfl,ha3⟩;have h13:=ha2.trans (ha3.mono fun k hk=>A0 ha2 hk);refine⟨h13,?_⟩;(conv=>whnf);rw [w64 (x:=1+(a.nodes:Int)) (by omega) (by omega)];refine Af (Gb b H3) fun H4 ha4=>?_;have h14:=h13.trans (ha4.mono fun k hk=>A0 h13 hk);refine⟨h14,?_⟩;refine Hd.mk (FA b) #[DE b] (Fb b) (ihb (by omega) H4) ?_;rintro _ H5 ⟨rfl,ha5⟩;have h15:=h14.trans (ha5.mono fun k hk=>A0 h14 hk);refine⟨h15,?_⟩;(conv=>whnf);rw [w64 (x:=1+(a.nodes:Int)+(b.nodes:Int)) (by omega) (by omega)];refine⟨h15,?_⟩;(conv=>whnf);exact⟨by simp only [ReM.nodes];simp,st1.old.trans (h15.mono fun k hk=>st1.up hk)⟩
theorem EJ:∀r:ReM,stM r≤2*r.nodes
 | .eps=>by simp [stM,ReM.nodes]
 | .cls _=>by simp [stM,ReM.nodes]
 | .cat a b=>by have:=EJ a;have:=EJ b;simp only [stM,ReM.nodes];omega
 | .alt a b=>by have:=EJ a;have:=EJ b;simp only [stM,ReM.nodes];omega
 | .star a=>by have:=EJ a;simp only [stM,ReM.nodes];omega
 | .and_ a b=>by simp [stM]
 | .minus a b=>by simp [stM]
def Dy(r:ReM):NfM:=⟨(stM r:Int),((By r 0).1:Int),((By r 0).2.1:Int),(By r 0).2.2⟩
def T0:Value:=.agg #[.int .i64 0,.int .i64 0,.int .i64 0,.slice none 0 0]
def T3(H H':Aa)(r:ReM)(v:Value):Prop:=Agr (Old H) H H'∧if 2000<r.nodes then v= .tuple #[T0,.int .i64 24]else
 ∃ea ec,v= .tuple #[.agg (nfL (Dy r) (.slice ea (Dy r).edges.length ec)).toArray,.int .i64 0]∧SlO tEd none_ H' H.size 104 (.slice ea (Dy r).edges.length ec) (Dy r).edges
theorem TH:(Tryz.prog.info? 118).bind (·.zero)=some (.agg #[.int .i64 0,.int .i64 0,.int .i64 0,.slice none 0 0,.nilFunc,.int .i64 0]):=rfl
theorem Ma(r:ReM)(hpl:r.plain=true)(hb:r.nodes≤1000000000)(H:Aa):Ao Tryz.prog 16 #[Ad r,.nilFunc] H fun v H'=>T3 H H' r v:=by
 rw [F3];refine Ao.of_vc Tryz.func16 rfl (Tryz.call16 _) (Ag _ [.int .i64 0,.int .i64 0,.int .i64 0,.slice none 0 0] E5 rfl ?_);intro y H1 hy hs1 hb1 ha1;have st1:=(St.nil H).box hy hs1 hb1 ha1;refine On Tryz.underlying24 (Hd.mk (FA r) #[DE r] (Fb r) (QD r hb H1) ?_);rintro _ H2 ⟨rfl,ha2⟩;have st2:=st1.call ha2;by_cases hbig:2000<r.nodes
 ·have d1:decide ((2000:Int)<(r.nodes:Int))=true:=decide_eq_true (by omega);(conv=>whnf);rw [d1];refine Av Tryz.underlying37 rfl _ E5 [.int .i64 0,.int .i64 0,.int .i64 0,.slice none 0 0] rfl (Ay (cs:=[.int .i64 0,.int .i64 0,.int .i64 0,.slice none 0 0]) st2 0 rfl rfl (UO _) rfl fun H3 st3=>?_);refine ldN (cs:=[.int .i64 0,.int .i64 0,.int .i64 0,.slice none 0 0]) Ek ((st3.blk 0 rfl).cells fun j v hv=>by rw [UR];exact hv) trivial ?_;(conv=>whnf);exact⟨st3.old,by rw [if_pos hbig];rfl⟩
 ·have d1:decide ((2000:Int)<(r.nodes:Int))=false:=decide_eq_false (by omega);have hst:=EJ r;have hin:=Fg r hpl 0;(conv=>whnf);rw [d1];refine Av Tryz.underlying118 rfl _ TH (bdL 0 (.slice none 0 0) .nilFunc) (by kernel_rfl) (BM (bdL 0 (.slice none 0 0) .nilFunc) rfl ?_);intro bb H3 hbb hs3 hb3 ha3;have st3:St H H3 (pB tBd bb (bdL 0 (.slice none 0 0) .nilFunc)::pS tEd 104 none 0 0 []::[pB 37 y [.int .i64 0,.int .i64 0,.int .i64 0,.slice none 0 0]]):=((st2.box hbb hs3 hb3 ha3).nils tEd 104).pick [1,2,0] (by decide);have hp:=Tc (sub:=.nilFunc) (n:=0) (es:=[]) r hpl st3 (by omega) (by simp only [UN];omega);rw [F3]at hp;refine Ai.mk hp ?_;rintro _ H4 ⟨rfl,a4,c4,st4⟩;rw [List.nil_append,UR]at st4;refine fa Bf (fa Gs (AG st4 0 ct3 rfl (show 1<6 by decide) rfl fun H5 st5=>(fa Bf (fa Gt (AG st5 0 ct3 rfl (show 2<6 by decide) rfl fun H6 st6=>(fa BE ?_))))));refine ld1 (v:=.int .i64 0) FH (by rw [(st6.blk 0 rfl).cell];rfl) trivial ?_;refine fa Bf (fa CN ?_);refine ld1 (v:=.int .i64 (stM r:Int)) ct3 (by rw [(st6.blk 0 rfl).cell];rfl) trivial ?_;have d2:decide ((65536:Int)<(stM r:Int))=false:=decide_eq_false (by omega);(conv=>whnf);rw [d2];refine fa Bf ?_;have hc6:Bo H6 bb 0 (nfL (Dy r) (.slice a4 (Dy r).edges.length c4)):=(st6.blk 0 rfl).cells fun j v hv=>by
   rw [UR]
   match j,hv with
   | 0,hv=>exact hv
   | 1,hv=>exact hv
   | 2,hv=>exact hv
   | 3,hv=>exact hv
  refine ldN (cs:=nfL (Dy r) (.slice a4 (Dy r).edges.length c4)) Ek hc6 trivial (Ay (cs:=nfL (Dy r) (.slice a4 (Dy r).edges.length c4)) st6 2 rfl rfl (UO _) rfl fun H7 st7=>?_);rw [Ae (show(nfL (Dy r) (.slice a4 (Dy r).edges.length c4)).length=4 from rfl)]at st7;refine ldN (cs:=nfL (Dy r) (.slice a4 (Dy r).edges.length c4)) Ek ((st7.blk 2 rfl).cells fun j v hv=>by rw [UR];exact hv) trivial ?_;(conv=>whnf);exact⟨st7.old,by rw [if_neg hbig];exact⟨a4,c4,rfl,St.own st7 1 rfl⟩⟩
theorem Rj(r:ReM)(hpl:r.plain=true)(hb:r.nodes≤1000000000)(H:Aa):Ao Tryz.prog 9 #[Ad r] H fun v H'=>T3 H H' r v:=by
 refine Ao.of_vc Tryz.func9 rfl (Tryz.call9 _) (Ag _ [.int .i64 0,.int .i64 0,.int .i64 0,.slice none 0 0] E5 rfl ?_);intro y H1 hy hs1 hb1 ha1;have st1:=(St.nil H).box hy hs1 hb1 ha1;refine Ai.mk (Ma r hpl hb H1) ?_;rintro v H2 ⟨ha2,hv⟩;have st2:=st1.call ha2;by_cases hbig:2000<r.nodes
 ·rw [if_pos hbig]at hv;subst hv;refine Ay (cs:=[.int .i64 0,.int .i64 0,.int .i64 0,.slice none 0 0]) st2 0 rfl rfl (UO _) rfl fun H3 st3=>?_;refine ldN (cs:=[.int .i64 0,.int .i64 0,.int .i64 0,.slice none 0 0]) Ek ((st3.blk 0 rfl).cells fun j v hv=>by rw [UR];exact hv) trivial ?_;(conv=>whnf);exact⟨st3.old,by rw [if_pos hbig];rfl⟩
 ·rw [if_neg hbig]at hv;obtain⟨ea,ec,rfl,hown⟩:=hv;obtain⟨ea',ec',e3,st3⟩:=st1.got ha2 hown;injection e3 with e31 e32 e33
  subst e31;subst e33;refine Ay (cs:=nfL (Dy r) (.slice ea (Dy r).edges.length ec)) st3 0 rfl rfl (UO _) rfl fun H7 st7=>?_;rw [Ae (show(nfL (Dy r) (.slice ea (Dy r).edges.length ec)).length=4 from rfl)]at st7;refine ldN (cs:=nfL (Dy r) (.slice ea (Dy r).edges.length ec)) Ek ((st7.blk 0 rfl).cells fun j v hv=>by rw [UR];exact hv) trivial ?_;(conv=>whnf);exact⟨st7.old,by rw [if_neg hbig];exact⟨ea,ec,rfl,St.own st7 1 rfl⟩⟩
def Hg(b:Nat):BitVec 256:=ofB 0#256 [b]
def Ew:List Nat→ReM
 | []=>.eps
 | b::l=>l.foldl (fun r c=>.cat r (.cls (Hg c))) (.cls (Hg b))
theorem NC{l:List Nat}(h:l≠[])(c:Nat):Ew (l++[c])= .cat (Ew l) (.cls (Hg c)):=by
 cases l with
 | nil=>exact absurd rfl h
 | cons b l=>simp [Ew,List.foldl_append]
theorem ML(l:List Nat):(Ew l).plain=true:=by
 cases l with
 | nil=>rfl
 | cons b l=>
   unfold Ew;have key:∀(l:List Nat) (r:ReM),r.plain=true→(l.foldl (fun r c=>ReM.cat r (.cls (Hg c))) r).plain=true:=by
    intro l
    induction l with
    | nil=>exact fun r h=>h
    | cons c l ih=>exact fun r h=>ih _ (by simp [ReM.plain,h])
   exact key l _ rfl
def O4(l:List Nat):Value:=match l with | []=>.nilIface | _=>Ad (Ew l)
theorem Rt{s:ByteArray}{i:Nat}{c:UInt8}(h:s.data[i]? =some c):byN (s.extract i (i+1))=[c.toNat]:=by
 have hi:=(Vd.1 h).1;unfold byN;rw [ByteArray.data_extract,Array.toList_extract,List.extract_eq_take_drop];have:(s.data.toList.drop i).take (i+1 - i)=[c]:=by
  rw [show i+1 - i=1 by omega];have h2:s.data.toList[i]? =some c:=by rw [Array.getElem?_toList];exact h
  obtain⟨h3,h4⟩:=UV.1 h2;rw [List.drop_eq_getElem_cons h3,h4];rfl
 rw [this];rfl
theorem Tq(s:ByteArray)(hs:s.size≤1048576)(H:Aa):Bv Tryz.prog 23 #[.string s] H (Ad (Ew (byN s))):=by
 refine Ao.of_vc Tryz.func23 rfl (Tryz.call23 _) ?_;have hbl:=KY s;by_cases he:s.size=0
 ·have hnil:byN s=[]:=Vi (by omega);have hse:s=⟨#[]⟩:=MM (by
   have:s.data.toList=[]:=Vi (by rw [Array.length_toList];exact he);rw [this])
  have d0:(s.toList==(⟨#[]⟩:ByteArray).toList)=true:=by rw [hse];simp
  (conv=>whnf);rw [d0];refine Av Tryz.underlying127 rfl _ Cr [] rfl ?_;(conv=>whnf);exact⟨by rw [hnil];rfl,Agr.refl _ _⟩
 ·have d0:(s.toList==(⟨#[]⟩:ByteArray).toList)=false:=by
   cases h:(s.toList==(⟨#[]⟩:ByteArray).toList)with
   | false=>rfl
   | true=>
     rw [RS]at h;rw [h]at he;exact absurd rfl he
  (conv=>whnf);rw [d0];(conv=>whnf);refine AH.mk [3,12] (fun i:Nat=>[O4 ((byN s).take i),.int .i64 (i:Int)]) (fun i H2=>i≤s.size∧St H H2 []) (fun i _=>s.size - i) ?_ ?_
  ·(conv=>whnf);exact⟨0,rfl,UZ _,St.nil H⟩
  ·rintro i H2 junk ⟨hi,st2⟩;refine AQ.mk (fun hz=>?_) (fun hz=>?_)<;>simp only [decide_eq_true_eq,decide_eq_false_iff_not]at hz
   ·obtain⟨c,hc⟩:=SJ (s:=s) (k:=i) (by omega);have w1:IntKind.wrap .i64 ((i:Int)+1)=((i+1:Nat):Int):=by rw [w64 (by omega) (by omega)];omega
    refine Al.run ?_;(conv=>whnf);rw [w1];refine MO (l:=(i:Int)) (h:=((i+1:Nat):Int)) Tryz.underlying9 (by omega) (by omega) (by omega) ?_;rw [Vr,Vr];refine Af (Ug (s.extract i (i+1)) (by simp;omega) H2) fun H3 ha3=>?_;have st3:=st2.call ha3;rw [Rt hc];refine Av Tryz.underlying130 rfl _ Ci (Ak (Hg c.toNat)) (by unfold Ak;kernel_rfl) ?_;refine Ag _ [.int .u64 0,.int .u64 0,.int .u64 0,.int .u64 0] Ci rfl ?_;intro x H4 hx hs4 hb4 ha4;have st4:=st3.box hx hs4 hb4 ha4;refine Ay (cs:=Ak (Hg c.toNat)) st4 0 rfl rfl (UO _) rfl fun H5 st5=>?_;rw [Ae (show(Ak (Hg c.toNat)).length=4 from rfl)]at st5;have htk:=Bd (KX hc);have hb5:Bo H5 x 0 (Ak (Hg c.toNat)):=(st5.blk 0 rfl).cells fun j v hv=>by rw [UR];exact hv
    by_cases hi0:i=0
    ·subst hi0;refine TY Tryz.underlying24 (ldN (cs:=Ak (Hg c.toNat)) Si hb5 trivial ?_);(conv=>whnf);rw [w1];refine⟨rfl,0+1,?_,⟨by omega,st5.pick [] (by decide)⟩,by omega⟩;rw [htk];rfl
    ·have hne:(byN s).take i≠[]:=fun e=>by
      have h:=congrArg List.length e;rw [Vg,hbl,UN]at h;omega
     have htv:O4 ((byN s).take i)= .iface (K1 (Ew ((byN s).take i))) (DE (Ew ((byN s).take i))):=by
      rw [←F3];cases h:(byN s).take i with
      | nil=>exact absurd h hne
      | cons b l=>rfl
     have htv2:O4 ((byN s).take (i+1))= .iface 132 (.agg #[.iface (K1 (Ew ((byN s).take i))) (DE (Ew ((byN s).take i))),.iface 130 (BT (Hg c.toNat))]):=by
      have:O4 ((byN s).take (i+1))=Ad (Ew ((byN s).take (i+1))):=by
       cases h:(byN s).take (i+1)with
       | nil=>
         have h9:=congrArg List.length h;rw [Vg,hbl,UN]at h9;omega
       | cons b l=>rfl
      rw [this,htk,NC hne,←F3];rfl
     rw [htv];generalize K1 (Ew ((byN s).take i))=NT at*;generalize DE (Ew ((byN s).take i))=NP at*;refine TX Tryz.underlying24 (ldN (cs:=Ak (Hg c.toNat)) Si hb5 trivial (Av Tryz.underlying132 rfl _ DF [.iface NT NP,.iface 130 (BT (Hg c.toNat))] rfl ?_));(conv=>whnf);rw [w1];refine⟨rfl,i+1,?_,⟨by omega,st5.pick [] (by decide)⟩,by omega⟩;rw [htv2]
   ·obtain rfl:i=s.size:=by omega
    (conv=>whnf);rw [Vk (by rw [hbl];exact UO _)];refine⟨?_,st2.old⟩;cases h:byN s with
    | nil=>rw [h]at hbl;simp at hbl;omega
    | cons b l=>rfl
def erI(bad:Bool):Int:=if bad then 30 else 0
def bdE(er:Bool)(n:Nat)(v sub:Value):List Value:=[.int .i64 (n:Int),.int .i64 0,.int .i64 0,v,sub,.int .i64 (erI er)]
section
variable{B:Nat→Prop}{H0 H:Aa}{rest:List Pc}{bb n:Nat}{v sub:Value}{er:Bool}
end
abbrev bdP(bb:Nat)(er:Bool)(n:Nat)(a:Option Addr)(c:Nat)(es:List EdM)(rest:List Pc):List Pc:=pB tBd bb (bdE er n (.slice a es.length c) .nilFunc)::pS tEd 104 a es.length c es::rest
structure PartW(B:Nat→Prop)(H0:Aa)(bb:Nat)(er:Bool)(n:Nat)(es:List EdM)(rest:List Pc)(r:ReM)(v:Value)(H':Aa):Prop where
 ex:∃(p q n':Nat) (es':List EdM) (a':Option Addr) (c':Nat),v= .tuple #[.int .i64 (p:Int),.int .i64 (q:Int)]∧p≤1000000∧q≤1000000∧n≤n'∧n'≤n+2*r.nodes∧es'.length≤es.length+4*r.nodes∧StB B H0 H' (bdP bb (er|| !r.plain) n' a' c' es' rest)
theorem Ju:(Tryz.prog.info? 166).bind (·.zero)=some (.agg #[.nilIface,.nilIface]):=rfl
theorem L3:(Tryz.prog.info? 167).bind (·.zero)=some (.agg #[.nilIface,.nilIface]):=rfl
end Go.Proofs.YtlnmhfhdjnenoaaGreatDoor
namespace Go.Proofs.YtlnmhfhdjnenoaaGreatDoor
open Go.VC Go.Lib
theorem AX{u v:List Nat}(h:u.length+v.length≤10000000000):(bA u).size+(bA v).size≤maxLen:=by
 rw [bsz,bsz];unfold maxLen;omega
theorem Ex{k n:Nat}{l:List Nat}(h:k<n):AR k n l=[40]++l++[41]:=if_pos h
theorem EF{k n:Nat}{l:List Nat}(h:¬k<n):AR k n l=l:=if_neg h
theorem RL:∀(r:ReM) (need:Nat) {H:Aa},DP H→r.nodes≤1000000→Bv Tryz.prog 45 #[Ad r,.int .i64 (need:Int)] H (.string (bA (AR (AC r) need (Am r)))):=fun r=>by
 induction r with
 | eps=>
   intro need H hE hn;show Bv Tryz.prog 45 #[Ad .eps,.int .i64 (need:Int)] H (.string (bA (AR 4 need (Am .eps))));rw [show Am .eps=[40,41]from rfl];refine Ao.of_vc Tryz.func45 rfl (Tryz.call45 _) ?_;(conv=>whnf);try (refine Al.run ?_)
   refine BX Tryz.underlying127 (by intro ms h;cases h) ?_;refine Ag (.agg #[]) [] rfl rfl ?_;intro x H1 hx hs1 hb1 ha1;have st1:=(St.nil H).box hx hs1 hb1 ha1;refine Ay (cs:=[]) st1 0 rfl rfl (UO _) rfl fun H2 st2=>?_;(conv=>whnf);try (refine Al.run ?_)
   by_cases hk:4<need
   ·have d:decide ((4:Int)<(need:Int))=true:=decide_eq_true (by omega);(conv=>whnf);rw [d];refine Bl (AX (u:=[40]) (v:=[40,41]) (by decide)) ?_;rw [show(⟨#[40]⟩:ByteArray)=bA [40]from rfl,show(⟨#[40,41]⟩:ByteArray)=bA [40,41]from rfl,A7];refine Bl (AX (u:=[40]++[40,41]) (v:=[41]) (by decide)) ?_;rw [show(⟨#[41]⟩:ByteArray)=bA [41]from rfl,A7];(conv=>whnf);exact⟨by rw [Ex hk],st2.old⟩
   ·have d:decide ((4:Int)<(need:Int))=false:=decide_eq_false (by omega);(conv=>whnf);rw [d];(conv=>whnf);exact⟨by rw [EF hk];rfl,st2.old⟩
 | cls s=>
   intro need H hE hn;have ls:=MC s;show Bv Tryz.prog 45 #[Ad (.cls s),.int .i64 (need:Int)] H (.string (bA (AR 4 need (Am (.cls s)))));rw [show Am (.cls s)=Ge s from rfl];refine Ao.of_vc Tryz.func45 rfl (Tryz.call45 _) ?_;(conv=>whnf);try (refine Al.run ?_)
   refine AE Tryz.underlying127 (by intro ms h;cases h) Cr (by decide) ?_;refine BX Tryz.underlying130 (by intro ms h;cases h) ?_;refine Ag _ [.int .u64 0,.int .u64 0,.int .u64 0,.int .u64 0] Ci rfl ?_;intro x H1 hx hs1 hb1 ha1;have st1:=(St.nil H).box hx hs1 hb1 ha1;refine Ay (cs:=Ak s) st1 0 rfl rfl (UO _) rfl fun H2 st2=>?_;rw [Ae (show(Ak s).length=4 from rfl)]at st2;refine fa Lf (ldN (cs:=Ak s) B0 ((st2.blk 0 rfl).cells fun j v hv=>by simpa using hv) trivial (Af (Ti (hE.agr st2.old)) fun H3 ha3=>?_));have st3:=st2.call ha3;(conv=>whnf);try (refine Al.run ?_)
   by_cases hk:4<need
   ·have d:decide ((4:Int)<(need:Int))=true:=decide_eq_true (by omega);(conv=>whnf);rw [d];refine Bl (AX (u:=[40]) (v:=Ge s) (by simp only [UL,UM,UN];omega)) ?_;rw [show(⟨#[40]⟩:ByteArray)=bA [40]from rfl,A7];refine Bl (AX (u:=[40]++Ge s) (v:=[41]) (by simp only [UL,UM,UN];omega)) ?_;rw [show(⟨#[41]⟩:ByteArray)=bA [41]from rfl,A7];(conv=>whnf);exact⟨by rw [Ex hk],st3.old⟩
   ·have d:decide ((4:Int)<(need:Int))=false:=decide_eq_false (by omega);(conv=>whnf);rw [d];(conv=>whnf);exact⟨by rw [EF hk],st3.old⟩
 | cat a b iha ihb=>
   intro need H hE hn;simp only [ReM.nodes]at hn;have la:=Bi a;have lb:=Bi b;have wa:=AN (AC a) 2 (Am a);have wb:=AN (AC b) 3 (Am b);show Bv Tryz.prog 45 #[Ad (.cat a b),.int .i64 (need:Int)] H (.string (bA (AR 2 need (Am (.cat a b)))));rw [show Am (.cat a b)=AR (AC a) 2 (Am a)++AR (AC b) 3 (Am b)from rfl];obtain⟨u,hu⟩:∃u,u=AR (AC a) 2 (Am a):=⟨_,rfl⟩;obtain⟨v,hv⟩:∃v,v=AR (AC b) 3 (Am b):=⟨_,rfl⟩;rw [←hu]at wa ⊢;rw [←hv]at wb ⊢;refine Ao.of_vc Tryz.func45 rfl (Tryz.call45 _) ?_;(conv=>whnf);try (refine Al.run ?_)
   refine AE Tryz.underlying127 (by intro ms h;cases h) Cr (by decide) ?_;refine AE Tryz.underlying130 (by intro ms h;cases h) Ci (by decide) ?_;refine AE Tryz.underlying163 (by intro ms h;cases h) DG (by decide) ?_;refine AE Tryz.underlying166 (by intro ms h;cases h) Ju (by decide) ?_;refine AE Tryz.underlying167 (by intro ms h;cases h) L3 (by decide) ?_;refine BX Tryz.underlying132 (by intro ms h;cases h) ?_;refine Ag _ [.nilIface,.nilIface] DF rfl ?_;intro x H1 hx hs1 hb1 ha1;have st1:=(St.nil H).box hx hs1 hb1 ha1;refine Ay (cs:=[Ad a,Ad b]) st1 0 rfl rfl (UO _) (by simp [Cn]) fun H2 st2=>?_;rw [Ae (show([Ad a,Ad b]).length=([.nilIface,.nilIface]:List Value).length from rfl)]at st2;have hxl:x<H2.size:=(st2.in_ 0 rfl rfl).2;have ca:=iha 2 (hE.agr st2.old) (by omega);rw [←hu]at ca;refine As.heldZ (fun k=>k=x) [] (sq [0,1,3,4] (.f 2 (.f 5 (sq [6,7,8] .e)))) rfl (by kernel_rfl) (fa Jk ?_);refine ld1 (v:=Ad a) C8 (by rw [(st2.blk 0 rfl).cell];rfl) rfl ?_;refine fa HY ?_;refine ld1 (v:=Ad b) C8 (by rw [(st2.blk 0 rfl).cell];rfl) rfl ?_;refine Af ca fun H3 ha3=>?_;have st3:=st2.call ha3;have g3:Agr (fun k=>k=x) H2 H3:=ha3.mono fun k hk=>by rw [show k=x from hk];exact hxl
   refine⟨g3,?_⟩;have cb:=ihb 3 (hE.agr st3.old) (by omega);rw [←hv]at cb;refine Af cb fun H4 ha4=>?_;have st4:=st3.call ha4;refine⟨g3.trans (ha4.mono fun k hk=>by rw [show k=x from hk];exact(st3.in_ 0 rfl rfl).2),?_⟩;refine Bl (AX (u:=u) (v:=v) (by(try simp only [UL,UM,UN]);omega)) ?_;rw [A7];(conv=>whnf);try (refine Al.run ?_)
   by_cases hk:2<need
   ·have d:decide ((2:Int)<(need:Int))=true:=decide_eq_true (by omega);(conv=>whnf);rw [d];refine Bl (AX (u:=[40]) (v:=(u++v)) (by(try simp only [UL,UM,UN]);omega)) ?_;rw [show(⟨#[40]⟩:ByteArray)=bA [40]from rfl,A7];refine Bl (AX (u:=[40]++(u++v)) (v:=[41]) (by(try simp only [UL,UM,UN]);omega)) ?_;rw [show(⟨#[41]⟩:ByteArray)=bA [41]from rfl,A7];(conv=>whnf);exact⟨by rw [Ex hk],st4.old⟩
   ·have d:decide ((2:Int)<(need:Int))=false:=decide_eq_false (by omega);(conv=>whnf);rw [d];(conv=>whnf);exact⟨by rw [EF hk],st4.old⟩
 | alt a b iha ihb=>
   intro need H hE hn;simp only [ReM.nodes]at hn;have la:=Bi a;have lb:=Bi b;have wa:=AN (AC a) 0 (Am a);have wb:=AN (AC b) 1 (Am b);show Bv Tryz.prog 45 #[Ad (.alt a b),.int .i64 (need:Int)] H (.string (bA (AR 0 need (Am (.alt a b)))));rw [show Am (.alt a b)=AR (AC a) 0 (Am a)++[124]++AR (AC b) 1 (Am b)from rfl];obtain⟨u,hu⟩:∃u,u=AR (AC a) 0 (Am a):=⟨_,rfl⟩;obtain⟨v,hv⟩:∃v,v=AR (AC b) 1 (Am b):=⟨_,rfl⟩;rw [←hu]at wa ⊢;rw [←hv]at wb ⊢;refine Ao.of_vc Tryz.func45 rfl (Tryz.call45 _) ?_;(conv=>whnf);try (refine Al.run ?_)
   refine AE Tryz.underlying127 (by intro ms h;cases h) Cr (by decide) ?_;refine AE Tryz.underlying130 (by intro ms h;cases h) Ci (by decide) ?_;refine BX Tryz.underlying163 (by intro ms h;cases h) ?_;refine Ag _ [.nilIface,.nilIface] DG rfl ?_;intro x H1 hx hs1 hb1 ha1;have st1:=(St.nil H).box hx hs1 hb1 ha1;refine Ay (cs:=[Ad a,Ad b]) st1 0 rfl rfl (UO _) (by simp [Cn]) fun H2 st2=>?_;rw [Ae (show([Ad a,Ad b]).length=([.nilIface,.nilIface]:List Value).length from rfl)]at st2;have hxl:x<H2.size:=(st2.in_ 0 rfl rfl).2;have ca:=iha 0 (hE.agr st2.old) (by omega);rw [←hu]at ca;refine As.heldZ (fun k=>k=x) [] (sq [0,1,4,5] (.f 2 (sq [3] (.f 6 (sq [7,8,9] .e))))) rfl (by kernel_rfl) (fa Jl ?_);refine ld1 (v:=Ad a) C8 (by rw [(st2.blk 0 rfl).cell];rfl) rfl ?_;refine fa HZ ?_;refine ld1 (v:=Ad b) C8 (by rw [(st2.blk 0 rfl).cell];rfl) rfl ?_;refine Af ca fun H3 ha3=>?_;have st3:=st2.call ha3;have g3:Agr (fun k=>k=x) H2 H3:=ha3.mono fun k hk=>by rw [show k=x from hk];exact hxl
   refine⟨g3,?_⟩;refine Bl (AX (u:=u) (v:=[124]) (by(try simp only [UL,UM,UN]);omega)) ?_;rw [show(⟨#[124]⟩:ByteArray)=bA [124]from rfl,A7];have cb:=ihb 1 (hE.agr st3.old) (by omega);rw [←hv]at cb;refine Af cb fun H4 ha4=>?_;have st4:=st3.call ha4;refine⟨g3.trans (ha4.mono fun k hk=>by rw [show k=x from hk];exact(st3.in_ 0 rfl rfl).2),?_⟩;refine Bl (AX (u:=u++[124]) (v:=v) (by(try simp only [UL,UM,UN]);omega)) ?_;rw [A7];(conv=>whnf);try (refine Al.run ?_)
   by_cases hk:0<need
   ·have d:decide ((0:Int)<(need:Int))=true:=decide_eq_true (by omega);(conv=>whnf);rw [d];refine Bl (AX (u:=[40]) (v:=(u++[124]++v)) (by(try simp only [UL,UM,UN]);omega)) ?_;rw [show(⟨#[40]⟩:ByteArray)=bA [40]from rfl,A7];refine Bl (AX (u:=[40]++(u++[124]++v)) (v:=[41]) (by(try simp only [UL,UM,UN]);omega)) ?_;rw [show(⟨#[41]⟩:ByteArray)=bA [41]from rfl,A7];(conv=>whnf);exact⟨by rw [Ex hk],st4.old⟩
   ·have d:decide ((0:Int)<(need:Int))=false:=decide_eq_false (by omega);(conv=>whnf);rw [d];(conv=>whnf);exact⟨by rw [EF hk],st4.old⟩
 | star a iha=>
   intro need H hE hn;simp only [ReM.nodes]at hn;have la:=Bi a;have wa:=AN (AC a) 3 (Am a);show Bv Tryz.prog 45 #[Ad (.star a),.int .i64 (need:Int)] H (.string (bA (AR 3 need (Am (.star a)))));rw [show Am (.star a)=AR (AC a) 3 (Am a)++[42]from rfl];obtain⟨u,hu⟩:∃u,u=AR (AC a) 3 (Am a):=⟨_,rfl⟩;rw [←hu]at wa ⊢;refine Ao.of_vc Tryz.func45 rfl (Tryz.call45 _) ?_;(conv=>whnf);try (refine Al.run ?_)
   refine AE Tryz.underlying127 (by intro ms h;cases h) Cr (by decide) ?_;refine AE Tryz.underlying130 (by intro ms h;cases h) Ci (by decide) ?_;refine AE Tryz.underlying163 (by intro ms h;cases h) DG (by decide) ?_;refine AE Tryz.underlying166 (by intro ms h;cases h) Ju (by decide) ?_;refine AE Tryz.underlying167 (by intro ms h;cases h) L3 (by decide) ?_;refine AE Tryz.underlying132 (by intro ms h;cases h) DF (by decide) ?_;refine BX Tryz.underlying165 (by intro ms h;cases h) ?_;refine Ag _ [.nilIface] Ii rfl ?_;intro x H1 hx hs1 hb1 ha1;have st1:=(St.nil H).box hx hs1 hb1 ha1;refine Ay (cs:=[Ad a]) st1 0 rfl rfl (UO _) (by simp [Cn]) fun H2 st2=>?_;rw [Ae (show([Ad a]).length=([.nilIface]:List Value).length from rfl)]at st2;refine fa Jm ?_;refine ld1 (v:=Ad a) C8 (by rw [(st2.blk 0 rfl).cell];rfl) trivial ?_;have ca:=iha 3 (hE.agr st2.old) (by omega);rw [←hu]at ca;refine Af ca fun H3 ha3=>?_;have st3:=st2.call ha3;refine Bl (AX (u:=u) (v:=[42]) (by simp only [UL,UM,UN];omega)) ?_;rw [show(⟨#[42]⟩:ByteArray)=bA [42]from rfl,A7];(conv=>whnf);try (refine Al.run ?_)
   by_cases hk:3<need
   ·have d:decide ((3:Int)<(need:Int))=true:=decide_eq_true (by omega);(conv=>whnf);rw [d];refine Bl (AX (u:=[40]) (v:=(u++[42])) (by simp only [UL,UM,UN];omega)) ?_;rw [show(⟨#[40]⟩:ByteArray)=bA [40]from rfl,A7];refine Bl (AX (u:=[40]++(u++[42])) (v:=[41]) (by simp only [UL,UM,UN];omega)) ?_;rw [show(⟨#[41]⟩:ByteArray)=bA [41]from rfl,A7];(conv=>whnf);exact⟨by rw [Ex hk],st3.old⟩
   ·have d:decide ((3:Int)<(need:Int))=false:=decide_eq_false (by omega);(conv=>whnf);rw [d];(conv=>whnf);exact⟨by rw [EF hk],st3.old⟩
 | and_ a b iha ihb=>
   intro need H hE hn;simp only [ReM.nodes]at hn;have la:=Bi a;have lb:=Bi b;have wa:=AN (AC a) 1 (Am a);have wb:=AN (AC b) 2 (Am b);show Bv Tryz.prog 45 #[Ad (.and_ a b),.int .i64 (need:Int)] H (.string (bA (AR 1 need (Am (.and_ a b)))));rw [show Am (.and_ a b)=AR (AC a) 1 (Am a)++[38]++AR (AC b) 2 (Am b)from rfl];obtain⟨u,hu⟩:∃u,u=AR (AC a) 1 (Am a):=⟨_,rfl⟩;obtain⟨v,hv⟩:∃v,v=AR (AC b) 2 (Am b):=⟨_,rfl⟩;rw [←hu]at wa ⊢;rw [←hv]at wb ⊢;refine Ao.of_vc Tryz.func45 rfl (Tryz.call45 _) ?_;(conv=>whnf);try (refine Al.run ?_)
   refine AE Tryz.underlying127 (by intro ms h;cases h) Cr (by decide) ?_;refine AE Tryz.underlying130 (by intro ms h;cases h) Ci (by decide) ?_;refine AE Tryz.underlying163 (by intro ms h;cases h) DG (by decide) ?_;refine BX Tryz.underlying166 (by intro ms h;cases h) ?_;refine Ag _ [.nilIface,.nilIface] Ju rfl ?_;intro x H1 hx hs1 hb1 ha1;have st1:=(St.nil H).box hx hs1 hb1 ha1;refine Ay (cs:=[Ad a,Ad b]) st1 0 rfl rfl (UO _) (by simp [Cn]) fun H2 st2=>?_;rw [Ae (show([Ad a,Ad b]).length=([.nilIface,.nilIface]:List Value).length from rfl)]at st2;have hxl:x<H2.size:=(st2.in_ 0 rfl rfl).2;have ca:=iha 1 (hE.agr st2.old) (by omega);rw [←hu]at ca;refine As.heldZ (fun k=>k=x) [] (sq [0,1,4,5] (.f 2 (sq [3] (.f 6 (sq [7,8,9] .e))))) rfl (by kernel_rfl) (fa Oa ?_);refine ld1 (v:=Ad a) C8 (by rw [(st2.blk 0 rfl).cell];rfl) rfl ?_;refine fa Ob ?_;refine ld1 (v:=Ad b) C8 (by rw [(st2.blk 0 rfl).cell];rfl) rfl ?_;refine Af ca fun H3 ha3=>?_;have st3:=st2.call ha3;have g3:Agr (fun k=>k=x) H2 H3:=ha3.mono fun k hk=>by rw [show k=x from hk];exact hxl
   refine⟨g3,?_⟩;refine Bl (AX (u:=u) (v:=[38]) (by(try simp only [UL,UM,UN]);omega)) ?_;rw [show(⟨#[38]⟩:ByteArray)=bA [38]from rfl,A7];have cb:=ihb 2 (hE.agr st3.old) (by omega);rw [←hv]at cb;refine Af cb fun H4 ha4=>?_;have st4:=st3.call ha4;refine⟨g3.trans (ha4.mono fun k hk=>by rw [show k=x from hk];exact(st3.in_ 0 rfl rfl).2),?_⟩;refine Bl (AX (u:=u++[38]) (v:=v) (by(try simp only [UL,UM,UN]);omega)) ?_;rw [A7];(conv=>whnf);try (refine Al.run ?_)
   by_cases hk:1<need
   ·have d:decide ((1:Int)<(need:Int))=true:=decide_eq_true (by omega);(conv=>whnf);rw [d];refine Bl (AX (u:=[40]) (v:=(u++[38]++v)) (by(try simp only [UL,UM,UN]);omega)) ?_;rw [show(⟨#[40]⟩:ByteArray)=bA [40]from rfl,A7];refine Bl (AX (u:=[40]++(u++[38]++v)) (v:=[41]) (by(try simp only [UL,UM,UN]);omega)) ?_;rw [show(⟨#[41]⟩:ByteArray)=bA [41]from rfl,A7];(conv=>whnf);exact⟨by rw [Ex hk],st4.old⟩
   ·have d:decide ((1:Int)<(need:Int))=false:=decide_eq_false (by omega);(conv=>whnf);rw [d];(conv=>whnf);exact⟨by rw [EF hk],st4.old⟩
 | minus a b iha ihb=>
   intro need H hE hn;simp only [ReM.nodes]at hn;have la:=Bi a;have lb:=Bi b;have wa:=AN (AC a) 1 (Am a);have wb:=AN (AC b) 2 (Am b);show Bv Tryz.prog 45 #[Ad (.minus a b),.int .i64 (need:Int)] H (.string (bA (AR 1 need (Am (.minus a b)))));rw [show Am (.minus a b)=AR (AC a) 1 (Am a)++[45]++AR (AC b) 2 (Am b)from rfl];obtain⟨u,hu⟩:∃u,u=AR (AC a) 1 (Am a):=⟨_,rfl⟩;obtain⟨v,hv⟩:∃v,v=AR (AC b) 2 (Am b):=⟨_,rfl⟩;rw [←hu]at wa ⊢;rw [←hv]at wb ⊢;refine Ao.of_vc Tryz.func45 rfl (Tryz.call45 _) ?_;(conv=>whnf);try (refine Al.run ?_)
   refine AE Tryz.underlying127 (by intro ms h;cases h) Cr (by decide) ?_;refine AE Tryz.underlying130 (by intro ms h;cases h) Ci (by decide) ?_;refine AE Tryz.underlying163 (by intro ms h;cases h) DG (by decide) ?_;refine AE Tryz.underlying166 (by intro ms h;cases h) Ju (by decide) ?_;refine BX Tryz.underlying167 (by intro ms h;cases h) ?_;refine Ag _ [.nilIface,.nilIface] L3 rfl ?_;intro x H1 hx hs1 hb1 ha1;have st1:=(St.nil H).box hx hs1 hb1 ha1;refine Ay (cs:=[Ad a,Ad b]) st1 0 rfl rfl (UO _) (by simp [Cn]) fun H2 st2=>?_;rw [Ae (show([Ad a,Ad b]).length=([.nilIface,.nilIface]:List Value).length from rfl)]at st2;have hxl:x<H2.size:=(st2.in_ 0 rfl rfl).2;have ca:=iha 1 (hE.agr st2.old) (by omega);rw [←hu]at ca;refine As.heldZ (fun k=>k=x) [] (sq [0,1,4,5] (.f 2 (sq [3] (.f 6 (sq [7,8,9] .e))))) rfl (by kernel_rfl) (fa Oc ?_);refine ld1 (v:=Ad a) C8 (by rw [(st2.blk 0 rfl).cell];rfl) rfl ?_;refine fa Od ?_;refine ld1 (v:=Ad b) C8 (by rw [(st2.blk 0 rfl).cell];rfl) rfl ?_;refine Af ca fun H3 ha3=>?_;have st3:=st2.call ha3;have g3:Agr (fun k=>k=x) H2 H3:=ha3.mono fun k hk=>by rw [show k=x from hk];exact hxl
   refine⟨g3,?_⟩;refine Bl (AX (u:=u) (v:=[45]) (by(try simp only [UL,UM,UN]);omega)) ?_;rw [show(⟨#[45]⟩:ByteArray)=bA [45]from rfl,A7];have cb:=ihb 2 (hE.agr st3.old) (by omega);rw [←hv]at cb;refine Af cb fun H4 ha4=>?_;have st4:=st3.call ha4;refine⟨g3.trans (ha4.mono fun k hk=>by rw [show k=x from hk];exact(st3.in_ 0 rfl rfl).2),?_⟩;refine Bl (AX (u:=u++[45]) (v:=v) (by(try simp only [UL,UM,UN]);omega)) ?_;rw [A7];(conv=>whnf);try (refine Al.run ?_)
   by_cases hk:1<need
   ·have d:decide ((1:Int)<(need:Int))=true:=decide_eq_true (by omega);(conv=>whnf);rw [d];refine Bl (AX (u:=[40]) (v:=(u++[45]++v)) (by(try simp only [UL,UM,UN]);omega)) ?_;rw [show(⟨#[40]⟩:ByteArray)=bA [40]from rfl,A7];refine Bl (AX (u:=[40]++(u++[45]++v)) (v:=[41]) (by(try simp only [UL,UM,UN]);omega)) ?_;rw [show(⟨#[41]⟩:ByteArray)=bA [41]from rfl,A7];(conv=>whnf);exact⟨by rw [Ex hk],st4.old⟩
   ·have d:decide ((1:Int)<(need:Int))=false:=decide_eq_false (by omega);(conv=>whnf);rw [d];(conv=>whnf);exact⟨by rw [EF hk],st4.old⟩
theorem RD{r:ReM}{H:Aa}(hE:DP H)(hn:r.nodes≤1000000):Bv Tryz.prog 18 #[Ad r] H (.string (bA (Am r))):=by
 refine Ao.of_vc Tryz.func18 rfl (Tryz.call18 _) (Af (RL r 0 hE hn) fun H1 ha1=>?_);(conv=>whnf);exact⟨by rw [EF (Nat.not_lt_zero _)],ha1⟩
end Go.Proofs.YtlnmhfhdjnenoaaGreatDoor
namespace Go.Proofs.YtlnmhfhdjnenoaaGreatDoor
open Go.VC
theorem QU:(Tryz.prog.info? 59).bind (·.zero)=some (.agg #[.int .i64 0,.int .i64 0,.bool false,.int .u64 0,.int .u64 0,.int .u64 0,.int .u64 0]):=rfl
theorem Mw{S:Nat→Prop}{H:Aa}{v:Value}{a:NfM}(hS:∀k,S k→k<H.size)(h:NfV S H v a):
  Ao Tryz.prog 19 #[v] H fun v' H'=>Agr (Old H) H H'∧∃ea ec,v'= .agg (nfL a (.slice ea a.edges.length ec)).toArray∧SlO tEd none_ H' H.size 104 (.slice ea a.edges.length ec) a.edges:=by
 have hl:=h.2.1;refine Ao.of_vc Tryz.func19 rfl (Tryz.call19 _) (HF h fun ea ec he h1=>?_);subst he;intro p H1 hp hs1 hb1 ha1;have st1:=(St.nil H).box hp hs1 hb1 ha1;refine Ag _ [.int .i64 0,.int .i64 0,.int .i64 0,.slice none 0 0] E5 rfl ?_;intro r H2 hr hs2 hb2 ha2;have st2:=st1.box hr hs2 hb2 ha2;refine fa HA ?_;refine ld1 (v:=.int .i64 a.st) ct3 (by rw [(st2.blk 0 rfl).cell];rfl) trivial ?_;refine fa Lk ?_;refine ld1 (v:=.int .i64 a.start) ct3 (by rw [(st2.blk 0 rfl).cell];rfl) trivial ?_;refine fa Ll ?_;refine ld1 (v:=.int .i64 a.fin) ct3 (by rw [(st2.blk 0 rfl).cell];rfl) trivial ?_;refine Av Tryz.underlying37 rfl _ E5 (nfL a (.slice none 0 0)) rfl (Ag _ [.int .i64 0,.int .i64 0,.int .i64 0,.slice none 0 0] E5 rfl ?_);intro q H3 hq hs3 hb3 ha3;have st3:=st2.box hq hs3 hb3 ha3;refine Ay (cs:=nfL a (.slice none 0 0)) st3 2 rfl rfl (UO _) rfl fun H4 st4=>?_;rw [Ae (show(nfL a (.slice none 0 0)).length=4 from rfl)]at st4;have st5:=st4.nils tEd 104;(conv=>whnf);refine AH.mk [4] (fun i:Nat=>[.int .i64 (i:Int)]) (fun i H5=>i≤a.edges.length∧∃a' c',St H H5 [pB 53 p (nfL a (.slice ea a.edges.length ec)),pB 37 r [.int .i64 0,.int .i64 0,.int .i64 0,.slice none 0 0],pB 37 q (nfL a (.slice a' i c')),pS tEd 104 a' i c' (a.edges.take i)]) (fun i _=>a.edges.length - i) ?_ ?_
 ·(conv=>whnf);exact⟨0,rfl,UZ _,none,0,st5⟩
 ·rintro i H5 junk ⟨hi,a',c',st⟩;refine fa Iy ?_;refine ld1 (v:=.slice ea a.edges.length ec) OG (by rw [(st.blk 0 rfl).cell];rfl) trivial ?_;refine AQ.mk (fun hz=>?_) (fun hz=>?_)<;>simp only [decide_eq_true_eq,decide_eq_false_iff_not]at hz
  ·obtain⟨e,he⟩:=Bw (l:=a.edges) (k:=i) (by omega);refine fa Iy ?_;refine ld1 (v:=.slice ea a.edges.length ec) OG (by rw [(st.blk 0 rfl).cell];rfl) trivial ?_;refine ixr (i:=i) Tj (h1.frame (st.old.mono hS)) he rfl ?_;rintro b6 o6 c6 hS6 hc6 ⟨rfl,hok⟩;refine ldN (cs:=edL e) S7 hc6 trivial (Ag _ [.int .i64 0,.int .i64 0,.bool false,.int .u64 0,.int .u64 0,.int .u64 0,.int .u64 0] QU rfl ?_);intro x H6 hx hs6 hb6 ha6;have st6:=st.box hx hs6 hb6 ha6;refine Ay (cs:=edL e) st6 4 rfl rfl (UO _) rfl fun H7 st7=>?_;rw [Ae (show(edL e).length=7 from rfl)]at st7;have hbx:=st7.blk 4 rfl;refine fa CC ?_;refine ld1 (v:=.slice a' i c') FI (by rw [(st7.blk 2 rfl).cell];rfl) trivial ?_;refine fa Lm ?_;refine ld1 (v:=.int .i64 e.fr) ct3 (by rw [hbx.cell];rfl) trivial ?_;refine fa Ln ?_;refine ld1 (v:=.int .i64 e.to) ct3 (by rw [hbx.cell];rfl) trivial ?_;refine fa PT ?_;refine ld1 (v:=.bool e.sil) ct4 (by rw [hbx.cell];rfl) trivial ?_;refine fa PU (ldN (cs:=Ak e.set) Re (hbx.cells fun j v hv=>HW e j v hv) trivial (Nd e (AM FB (edL e) rfl rfl (by decide) (by decide) ?_)));intro y H8 hy hs8 hb8 ha8;have st8:=st7.skip hy ha8;have htl:(a.edges.take i).length=i:=by rw [Vg];omega
   refine KT (ys:=[e]) st8 3 FB rfl (hb8.cells (o:=0) (cs:=edL e) fun j v hv=>by rw [UR];exact hv) (Ty.reps_one ⟨rfl,hok⟩) rfl (fun u hu=>UY.1 (FJ e) u hu) (by rw [htl];simp;omega) (by decide) fun a9 c9 H9 st9 _=>?_;rw [htl]at st9 ⊢;refine fa CC (AG st9 2 FI rfl (show 3<4 by decide) rfl fun H10 st10=>?_);(conv=>whnf);rw [w64 (x:=(i:Int)+1) (by omega) (by omega)];have ht:a.edges.take i++[e]=a.edges.take (i+1):=(Bd he).symm;rw [ht]at st10;exact⟨rfl,i+1,by simp,⟨by omega,a9,c9,st10.pick [0,1,2,3] (by decide)⟩,by omega⟩
  ·obtain rfl:i=a.edges.length:=by omega
   rw [Vc]at st;refine ldN (cs:=nfL a (.slice a' a.edges.length c')) Ek ((st.blk 2 rfl).cells fun j v hv=>by rw [UR];exact hv) trivial ?_;refine Ay (cs:=nfL a (.slice a' a.edges.length c')) st 1 rfl rfl (UO _) rfl fun H7 st7=>?_;rw [Ae (show(nfL a (.slice a' a.edges.length c')).length=4 from rfl)]at st7;refine ldN (cs:=nfL a (.slice a' a.edges.length c')) Ek ((st7.blk 1 rfl).cells fun j v hv=>by rw [UR];exact hv) trivial ?_;exact⟨st7.old,a',c',rfl,St.own st7 3 rfl⟩
theorem Ro{S:Nat→Prop}{H:Aa}{v:Value}{a:NfM}(hS:∀k,S k→k<H.size)(h:NfV S H v a):
  Ao Tryz.prog 20 #[v] H fun v' H'=>Agr (Old H) H H'∧∃ea ec,v'= .agg (nfL a (.slice ea a.edges.length ec)).toArray∧SlO Hk none_ H' H.size 106 (.slice ea a.edges.length ec) a.edges:=by
 have hl:=h.2.1;refine Ao.of_vc Tryz.func20 rfl (Tryz.call20 _) (HF h fun ea ec he h1=>?_);subst he;intro p H1 hp hs1 hb1 ha1;have st1:=(St.nil H).box hp hs1 hb1 ha1;refine Ag _ [.int .i64 0,.int .i64 0,.int .i64 0,.slice none 0 0] Ih rfl ?_;intro r H2 hr hs2 hb2 ha2;have st2:=st1.box hr hs2 hb2 ha2;refine fa HA ?_;refine ld1 (v:=.int .i64 a.st) ct3 (by rw [(st2.blk 0 rfl).cell];rfl) trivial ?_;refine fa Lk ?_;refine ld1 (v:=.int .i64 a.start) ct3 (by rw [(st2.blk 0 rfl).cell];rfl) trivial ?_;refine fa Ll ?_;refine ld1 (v:=.int .i64 a.fin) ct3 (by rw [(st2.blk 0 rfl).cell];rfl) trivial ?_;refine Av Tryz.underlying42 rfl _ Ih (nfL a (.slice none 0 0)) rfl (Ag _ [.int .i64 0,.int .i64 0,.int .i64 0,.slice none 0 0] Ih rfl ?_);intro q H3 hq hs3 hb3 ha3;have st3:=st2.box hq hs3 hb3 ha3;refine Ay (cs:=nfL a (.slice none 0 0)) st3 2 rfl rfl (UO _) rfl fun H4 st4=>?_;rw [Ae (show(nfL a (.slice none 0 0)).length=4 from rfl)]at st4;have st5:=st4.nils Hk 106;(conv=>whnf);refine AH.mk [4] (fun i:Nat=>[.int .i64 (i:Int)]) (fun i H5=>i≤a.edges.length∧∃a' c',St H H5 [pB 53 p (nfL a (.slice ea a.edges.length ec)),pB 42 r [.int .i64 0,.int .i64 0,.int .i64 0,.slice none 0 0],pB 42 q (nfL a (.slice a' i c')),pS Hk 106 a' i c' (a.edges.take i)]) (fun i _=>a.edges.length - i) ?_ ?_
 ·(conv=>whnf);exact⟨0,rfl,UZ _,none,0,st5⟩
 ·rintro i H5 junk ⟨hi,a',c',st⟩;refine fa Iy ?_;refine ld1 (v:=.slice ea a.edges.length ec) OG (by rw [(st.blk 0 rfl).cell];rfl) trivial ?_;refine AQ.mk (fun hz=>?_) (fun hz=>?_)<;>simp only [decide_eq_true_eq,decide_eq_false_iff_not]at hz
  ·obtain⟨e,he⟩:=Bw (l:=a.edges) (k:=i) (by omega);refine fa Iy ?_;refine ld1 (v:=.slice ea a.edges.length ec) OG (by rw [(st.blk 0 rfl).cell];rfl) trivial ?_;refine ixr (i:=i) Tj (h1.frame (st.old.mono hS)) he rfl ?_;rintro b6 o6 c6 hS6 hc6 ⟨rfl,hok⟩;refine ldN (cs:=edL e) S7 hc6 trivial (Ag _ [.int .i64 0,.int .i64 0,.bool false,.int .u64 0,.int .u64 0,.int .u64 0,.int .u64 0] QU rfl ?_);intro x H6 hx hs6 hb6 ha6;have st6:=st.box hx hs6 hb6 ha6;refine Ay (cs:=edL e) st6 4 rfl rfl (UO _) rfl fun H7 st7=>?_;rw [Ae (show(edL e).length=7 from rfl)]at st7;have hbx:=st7.blk 4 rfl;have htl:(a.edges.take i).length=i:=by rw [Vg];omega
   refine As.heldZ (Old H7) [13,14,15] (sq [0,1,2,3,4,5,6,7,8,9] (.f 10 (sq [11] (.f 12 (.f 13 (.f 14 (.f 15 .e))))))) rfl (by kernel_rfl) (fa CY ?_);refine ld1 (v:=.slice a' i c') Gr (by rw [(st7.blk 2 rfl).cell];rfl) (st7.in_ 2 rfl rfl).2 ?_;refine fa Lm ?_;refine ld1 (v:=.int .i64 e.fr) ct3 (by rw [hbx.cell];rfl) (st7.in_ 4 rfl rfl).2 ?_;refine fa Ln ?_;refine ld1 (v:=.int .i64 e.to) ct3 (by rw [hbx.cell];rfl) (st7.in_ 4 rfl rfl).2 ?_;refine fa PT ?_;refine ld1 (v:=.bool e.sil) ct4 (by rw [hbx.cell];rfl) (st7.in_ 4 rfl rfl).2 ?_;refine fa PU (ldN (cs:=Ak e.set) Re (hbx.cells fun j v hv=>HW e j v hv) (st7.in_ 4 rfl rfl).2 (Af (SH e.set H7) fun H8 ha8=>?_));have st8:=st7.call ha8;refine⟨ha8,?_⟩;refine Mh e (AM IB (C1 e) rfl (AU e) (by decide) (by decide) ?_);intro y H9 hy hs9 hb9 ha9;have st9:=st8.skip hy ha9;refine⟨ha8.trans (ha9.mono fun k hk=>by have:=A0 ha8 hk;omega),?_⟩;refine KT (ys:=[e]) st9 3 IB rfl (hb9.cells (o:=0) (cs:=C1 e) fun j v hv=>by rw [UR];exact hv) (Ty.reps_one ⟨rfl,hok⟩) rfl (fun u hu=>UY.1 (DC e) u hu) (by rw [htl];simp;omega) (by decide) fun a9 c9 H10 st10 _=>?_;rw [htl]at st10 ⊢;refine fa CY (AG st10 2 Gr rfl (show 3<4 by decide) rfl fun H11 st10=>?_);(conv=>whnf);rw [w64 (x:=(i:Int)+1) (by omega) (by omega)];have ht:a.edges.take i++[e]=a.edges.take (i+1):=(Bd he).symm;rw [ht]at st10;exact⟨rfl,i+1,by simp,⟨by omega,a9,c9,st10.pick [0,1,2,3] (by decide)⟩,by omega⟩
  ·obtain rfl:i=a.edges.length:=by omega
   rw [Vc]at st;refine ldN (cs:=nfL a (.slice a' a.edges.length c')) LT ((st.blk 2 rfl).cells fun j v hv=>by rw [UR];exact hv) trivial ?_;refine Ay (cs:=nfL a (.slice a' a.edges.length c')) st 1 rfl rfl (UO _) rfl fun H7 st7=>?_;rw [Ae (show(nfL a (.slice a' a.edges.length c')).length=4 from rfl)]at st7;refine ldN (cs:=nfL a (.slice a' a.edges.length c')) LT ((st7.blk 1 rfl).cells fun j v hv=>by rw [UR];exact hv) trivial ?_;exact⟨st7.old,a',c',rfl,St.own st7 3 rfl⟩
structure BR where
 p:Nat
 q:Nat
 u:Nat
 es:List EdM
def shE(n:Int)(e:EdM):EdM:=⟨e.fr+n,e.to+n,e.sil,if e.sil then 0#256 else e.set⟩
def Bh(a:NfM):Bool:=(a.has a.start&&a.has a.fin)&&a.edges.all fun e=>a.has e.fr&&a.has e.to
def Nm:ReM→Bool
 | .and_ _ _=>true
 | .minus _ _=>true
 | _=>false
section
variable{σ α β:Type}
def Cv(x:σ×Except Int α)(f:α→σ→σ×Except Int β):σ×Except Int β:=match x with
 | (s,.error e)=>(s,.error e)
 | (s,.ok a)=>f a s
def E8(x:σ×Except Int NfM)(n:Nat):σ×Except Int BR:=
 Cv x fun a s=>if Bh a=true then(s,.ok ⟨n+a.start.toNat,n+a.fin.toNat,a.st.toNat,a.edges.map (shE n)⟩)else(s,.error 2)
def Ba(sub:ReM→σ→σ×Except Int NfM):ReM→Nat→σ→σ×Except Int BR
 | .eps,n,s=>(s,.ok ⟨n,n+1,2,[AA n (n+1)]⟩)
 | .cls t,n,s=>(s,.ok ⟨n,n+1,2,[CJ n (n+1) t]⟩)
 | .cat a b,n,s=>Cv (Ba sub a n s) fun A s1=>Cv (Ba sub b (n+A.u) s1) fun C s2=>(s2,.ok ⟨A.p,C.q,A.u+C.u,A.es++C.es++[AA A.q C.p]⟩)
 | .alt a b,n,s=>Cv (Ba sub a (n+1) s) fun A s1=>Cv (Ba sub b (n+1+A.u) s1) fun C s2=>
   (s2,.ok ⟨n,n+1+A.u+C.u,A.u+C.u+2,A.es++C.es++[AA n A.p,AA n C.p,AA A.q (n+1+A.u+C.u),AA C.q (n+1+A.u+C.u)]⟩)
 | .star a,n,s=>Cv (Ba sub a (n+1) s) fun A s1=>(s1,.ok ⟨n,n+1+A.u,A.u+2,A.es++[AA n A.p,AA n (n+1+A.u),AA A.q A.p,AA A.q (n+1+A.u)]⟩)
 | .and_ a b,n,s=>E8 (sub (.and_ a b) s) n
 | .minus a b,n,s=>E8 (sub (.minus a b) s) n
theorem BY{x:σ×Except Int α}{f:α→σ→σ×Except Int β}{s:σ}{a:α}(h:x=(s,.ok a)):Cv x f=f a s:=by rw [h];rfl
theorem CW{x:σ×Except Int α}{f:α→σ→σ×Except Int β}{s:σ}{e:Int}(h:x=(s,.error e)):Cv x f=(s,.error e):=by rw [h];rfl
theorem D0{x:σ×Except Int α}{f:α→σ→σ×Except Int β}{s:σ}{b:β}(h:Cv x f=(s,.ok b)):∃s1 a,x=(s1,.ok a)∧f a s1=(s,.ok b):=by
 obtain⟨s1,r⟩:=x;cases r with
 | error e=>cases h
 | ok a=>exact⟨s1,a,rfl,h⟩
end
theorem Dc{a:NfM}:Bh a=true↔a.has a.start=true∧a.has a.fin=true∧∀e∈a.edges,a.has e.fr=true∧a.has e.to=true:=by
 unfold Bh;simp only [UX,UY,and_assoc]
structure P4{σ:Type}(sub:ReM→σ→σ×Except Int NfM)(E:Nat):Prop where
 len:∀r s s' a,sub r s=(s',.ok a)→a.edges.length≤E
 err:∀r s s' e,sub r s=(s',.error e)→e≠0
theorem C7{σ:Type}{sub:ReM→σ→σ×Except Int NfM}{E:Nat}(hE:P4 sub E):∀(r:ReM) (n:Nat) (s s':σ) (A:BR),Ba sub r n s=(s',.ok A)→n≤A.p∧A.p<n+A.u∧n≤A.q∧A.q<n+A.u∧A.u≤65536*r.nodes∧A.es.length≤(E+4)*r.nodes
 | .eps,n,s,s',A,h=>by
   cases h;simp only [ReM.nodes,Vh];omega
 | .cls t,n,s,s',A,h=>by
   cases h;simp only [ReM.nodes,Vh];omega
 | .cat a b,n,s,s',A,h=>by
   obtain⟨s1,A1,h1,h2⟩:=D0 h;obtain⟨s2,A2,h3,h4⟩:=D0 h2;cases h4;have i1:=C7 hE a _ _ _ _ h1;have i2:=C7 hE b _ _ _ _ h3;simp only [ReM.nodes,UL,Vh,Vj];omega
 | .alt a b,n,s,s',A,h=>by
   obtain⟨s1,A1,h1,h2⟩:=D0 h;obtain⟨s2,A2,h3,h4⟩:=D0 h2;cases h4;have i1:=C7 hE a _ _ _ _ h1;have i2:=C7 hE b _ _ _ _ h3;simp only [ReM.nodes,UL,UM,UN,Vj];omega
 | .star a,n,s,s',A,h=>by
   obtain⟨s1,A1,h1,h2⟩:=D0 h;cases h2;have i1:=C7 hE a _ _ _ _ h1;simp only [ReM.nodes,UL,UM,UN,Vj];omega
 | .and_ a b,n,s,s',A,h=>by
   obtain⟨s1,N,h1,h2⟩:=D0 (show E8 _ n=_ from h);have hl:=hE.len _ _ _ _ h1;split at h2
   ·rename_i hw;cases h2;obtain⟨k1,k2,-⟩:=Dc.1 hw;have k1:=NfM.has_iff.1 k1;have k2:=NfM.has_iff.1 k2;simp only [ReM.nodes,Vv,Vj];omega
   ·cases h2
 | .minus a b,n,s,s',A,h=>by
   obtain⟨s1,N,h1,h2⟩:=D0 (show E8 _ n=_ from h);have hl:=hE.len _ _ _ _ h1;split at h2
   ·rename_i hw;cases h2;obtain⟨k1,k2,-⟩:=Dc.1 hw;have k1:=NfM.has_iff.1 k1;have k2:=NfM.has_iff.1 k2;simp only [ReM.nodes,Vv,Vj];omega
   ·cases h2
end Go.Proofs.YtlnmhfhdjnenoaaGreatDoor
