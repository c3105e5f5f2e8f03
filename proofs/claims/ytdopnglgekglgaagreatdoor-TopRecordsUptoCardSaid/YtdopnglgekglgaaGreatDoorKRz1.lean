/- TopRecords: of all lists of names, notes and places (of bulk up to 1048576 in all): records put back in another order keep what the view hides, in braces by key, under a star by place; no other condition. -/
import Derived.Test.YtdopnglgekglgaaGreatDoorKRy7
import Derived.Test.YtdopnglgekglgaaGreatDoorCards
import Derived.Test.YtdopnglgekglgaaGreatDoorTie
set_option linter.unusedVariables false
set_option linter.unusedSimpArgs false
set_option linter.defProp false
set_option maxHeartbeats 100000000
open Go.Proofs.Tryz
open Go renaming TypeId → x_, Value → v_
namespace Go.Proofs.YtdopnglgekglgaaGreatDoor
section
open Go.ChangeShapes Go.WideShapes Go.ChangeAt Go.RowKit
open Go.ChangeMaps (open_string)
theorem Nm(os:Os):laidMet prog Rows.topRecordsUptoRow.laid ((S5 os).forCall (fun _ _=>0) ⟨#[], #[.slice none 0 0,.slice none 0 0,.slice none 0 0],[]⟩).memory:=
 laidMet_of_run' 100 (by kernel_rfl) (by kernel_rfl)
theorem KJ(os:Os){H:Type}(enc:x_×v_→H):∃a,DataW.whole enc prog ((S5 os).forCall (fun _ _=>0) ⟨#[], #[.slice none 0 0,.slice none 0 0,.slice none 0 0],[]⟩).memory Tryz.f3.params.toList (Rows.OpenSpec.upto Rows.topRecordsSpec).bare.plain.vars false (#[.slice none 0 0,.slice none 0 0,.slice none 0 0]:Array v_).toList 8=some ([.nil,.nil,.nil],[],a):=
 ⟨[],by kernel_rfl⟩
set_option maxRecDepth 100000 in
theorem JY(os:Os)(b:os.Started)(H:Type)(enc:x_×v_→H)(F:Stop.Interp):
  ReturnsInHanded {} Tryz.checked os 3 .any ((Rows.OpenSpec.upto Rows.topRecordsSpec).preRow enc prog Tryz.f3 Rows.topRecordsUptoRow.domain false Rows.topRecordsUptoRow.laid) (((Rows.OpenSpec.upto Rows.topRecordsSpec).at F).post enc prog Tryz.f3 false true false false):=by
 have⟨l,L⟩:=KJ os enc;refine returnsInHanded_of_row (C:=Tryz.checked) (s:=Rows.OpenSpec.upto Rows.topRecordsSpec) own_ b (by kernel_rfl) func3
  (witness_row_at (enc:=enc) (C:=Tryz.checked) false (S5 os) #[.slice none 0 0,.slice none 0 0,.slice none 0 0] rfl (by kernel_rfl) (by kernel_rfl) (by kernel_rfl)
   (OpenSpec.preRow_of_cond 8 L (by kernel_rfl) (fun k g=>by cases g;kernel_rfl) (by kernel_rfl) (Nm os))) ?_
 intro W base a ds gs m d G _ f _ M _ _;have g:=f _ rfl;have c:∀(j:Nat) t v,Tryz.f3.params[j]?=some t→a[j]?=some v→Value.okWide prog W .any base t v:=d;have n:=G;obtain⟨p,q,r,N,rfl,O,P⟩:=G;have Q:DataW.TrodAll enc prog W 0 (fun _=>true) true [22,22,23] a.toList ds p:=r;obtain⟨I,R,d0,S,p0,q0,e0,rfl,rfl,T,U⟩:=trodAll_cons Q;obtain⟨J,V,d1,X,p1,q1,rfl,rfl,rfl,Y,Z⟩:=trodAll_cons U;obtain⟨K,a5,d2,a6,p2,q2,rfl,rfl,rfl,h2,r2⟩:=trodAll_cons Z;obtain⟨rfl,rfl,rfl⟩:=trodAll_nil r2;obtain rfl:a= #[I,J,K]:=by cases a;simp_all
 obtain⟨rfl,rfl⟩:=trodVars_none N;have hb:=Y2 g;simp only[List.append_nil,Rows.uptoBulkAll,Rows.uptoBulk,Array.length_toList]at hb;obtain⟨a0,c0,l0,rfl,u,w,x⟩:=MG (c 0 _ I rfl rfl) T (by omega);obtain⟨a1,c1,l1,rfl,y,z,A⟩:=MG (c 1 _ J rfl rfl) Y (by omega);obtain⟨a2,c2,l2,rfl,B,D⟩:=V8 (c 2 _ K rfl rfl) h2 (by omega);refine((PQ l0 l1 l2 a0 a1 a2 c0 c1 c2 (InW W) W.heap (fun k g=>g) u y B (PP M) w z D x A) W rfl).2.mono fun e W' ⟨v,he,h,hv,E⟩=>?_;subst he;subst hv;exact⟨_,rfl,VF n rfl ⟨rfl,rfl,rfl⟩ Ah4 (by kernel_rfl) rfl underlying4 h E⟩
theorem Lr:Rows.TopRecordsUptoSaid:=
 OpenClaim.holds_of_cond 3 Tryz.f3 rfl rfl rfl rfl rfl rfl rfl ⟨rfl,rfl,rfl,rfl,rfl⟩ rfl rfl rfl rfl rfl (by as_aux_lemma=>kernel_rfl) func3 (by unfold joinedFacts;(repeat' with_reducible refine Bool.and_eq_true_iff.mpr ⟨?_,?_⟩)<;>as_aux_lemma=>kernel_rfl)
  (of_decide_eq_true (by as_aux_lemma=>kernel_rfl)) (by unfold Func.isWrapper;first | (rw[I_ (by decide+kernel)];kernel_rfl) | (rw[G_ (by decide+kernel)];exact⟨rfl,rfl⟩))
  (fun b a H enc _ F=>by rw[OpenClaim.pre_eq_preRow];exact JY b a H enc F)
theorem KI(f:FuncId)(fn:Func)(d:Tryz.pinned.checked.prog.funcNamed "loupe/loupetop.TopRecords" =some f)(a:Tryz.pinned.checked.prog.funcs[f]?=some fn):
  true=Tryz.pinned.checked.prog.looks []∧∀(j:Nat) t,fn.params[j]?=some t→Tryz.pinned.checked.prog.wantsStandIn t=false:=by
 obtain rfl:f=3:=Option.some.inj ((show prog.funcNamed "loupe/loupetop.TopRecords" =some 3 by kernel_rfl).symm.trans d) |>.symm
 obtain rfl:fn=Tryz.f3:=(Option.some.inj (func3.symm.trans a)).symm;refine⟨by kernel_rfl,fun j t b=>?_⟩;have b:(#[22,22,23]:Array x_)[j]?=some t:=b;have c:=Array.mem_of_getElem? b;simp only[List.mem_toArray,List.mem_cons,List.not_mem_nil,or_false]at c;rcases c with rfl | rfl | rfl
 ·exact(show prog.wantsStandIn 22=false by kernel_rfl)
 ·exact(show prog.wantsStandIn 22=false by kernel_rfl)
 ·exact(show prog.wantsStandIn 23=false by kernel_rfl)
theorem topRecords_holds:Rows.TopRecordsUptoCardSaid:=
 Claim7.holds_tied_plain_at .later [] _ _ _ _ Lr (fun _ h=>by cases h) (by as_aux_lemma=>kernel_rfl) (fun _ h=>by cases h) topRecordsUpto_row_tie rfl ⟨rfl,rfl⟩ (by as_aux_lemma=>kernel_rfl) rfl KI (by as_aux_lemma=>kernel_rfl)
#print axioms topRecords_holds
end
end Go.Proofs.YtdopnglgekglgaaGreatDoor
