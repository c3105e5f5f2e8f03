/- TopBudgets: of every text (of up to 1048576 bytes) and all budgets: a verdict that isn't out of states stays with greater budgets; what is accepted is accepted with the budget that Need tells and with no lesser one. -/
import Derived.Test.YtjbnocjgdmnkoaaGreatDoorKBy8
import Derived.Test.YtjbnocjgdmnkoaaGreatDoorCards
import Derived.Test.YtjbnocjgdmnkoaaGreatDoorTie
set_option maxHeartbeats 100000000
open Go.Proofs.Tryz
open Go renaming TypeId → x_, Value → v_
set_option linter.unusedVariables false
set_option linter.unusedSimpArgs false
set_option linter.defProp false
namespace Go.Proofs.YtjbnocjgdmnkoaaGreatDoor
section
open Go.ChangeShapes Go.WideShapes Go.ChangeAt Go.RowKit
open Go.ChangeMaps (open_string)
theorem OO(os:Os):laidMet prog Rows.topBudgetsUptoRow.laid ((UN os).forCall (fun _ _=>0) ⟨#[], #[.string ⟨#[]⟩,B_ 0,B_ 0],[]⟩).memory:=
 laidMet_of_run' 100 (by kernel_rfl) (by kernel_rfl)
theorem LV(os:Os){H:Type}(enc:x_×v_→H):∃a,DataW.whole enc prog ((UN os).forCall (fun _ _=>0) ⟨#[], #[.string ⟨#[]⟩,B_ 0,B_ 0],[]⟩).memory Tryz.f3.params.toList (Rows.OpenSpec.upto Rows.topBudgetsSpec).bare.plain.vars false (#[.string ⟨#[]⟩,B_ 0,B_ 0]:Array v_).toList 8=some ([.lit (.string []),.lit (.int .i64 0),.lit (.int .i64 0)],[],a):=
 ⟨[],by kernel_rfl⟩
set_option maxRecDepth 100000 in
theorem Lg(os:Os)(b:os.Started)(H:Type)(enc:x_×v_→H)(F:Stop.Interp):
  ReturnsInHanded {} Tryz.checked os 3 .any ((Rows.OpenSpec.upto Rows.topBudgetsSpec).preRow enc prog Tryz.f3 Rows.topBudgetsUptoRow.domain false Rows.topBudgetsUptoRow.laid) (((Rows.OpenSpec.upto Rows.topBudgetsSpec).at F).post enc prog Tryz.f3 false true false false):=by
 have⟨h,B⟩:=LV os enc;refine returnsInHanded_of_row (C:=Tryz.checked) (s:=Rows.OpenSpec.upto Rows.topBudgetsSpec) jR b (by kernel_rfl) func3
  (witness_row_at (enc:=enc) (C:=Tryz.checked) false (UN os) #[.string ⟨#[]⟩,B_ 0,B_ 0] rfl (by kernel_rfl) (by kernel_rfl) (by kernel_rfl)
   (OpenSpec.preRow_of_cond 8 B (by kernel_rfl) (fun k m=>by cases m;kernel_rfl) (by kernel_rfl) (OO os))) ?_
 intro W base a ds gs l d x _ f _ D _ _;have m:=f _ rfl;have c:∀(j:Nat) t v,Tryz.f3.params[j]?=some t→a[j]?=some v→Value.okWide prog W .any base t v:=d;have n:=x;obtain⟨p,q,r,E,rfl,G,I⟩:=x;have J:DataW.TrodAll enc prog W 0 (fun _=>true) true [9,3,3] a.toList ds p:=r;obtain⟨y,K,d0,L,p0,q0,e0,rfl,rfl,M,N⟩:=trodAll_cons J;obtain⟨z,O,d1,P,p1,q1,rfl,rfl,rfl,Q,R⟩:=trodAll_cons N;obtain⟨A,S,d2,T,p2,q2,rfl,rfl,rfl,U,V⟩:=trodAll_cons R;obtain⟨rfl,rfl,rfl⟩:=trodAll_nil V;obtain rfl:a= #[y,z,A]:=by cases a;simp_all
 obtain⟨rfl,rfl⟩:=trodVars_none E;have X:=bE m;obtain⟨u,rfl,rfl,rfl,Y⟩:=open_string underlying9 (c 0 9 y rfl rfl) M;obtain⟨Z,rfl,rfl,rfl,a0⟩:=open_int underlying3 (c 1 3 z rfl rfl) Q;obtain⟨n2,rfl,rfl,rfl,a8⟩:=open_int underlying3 (c 2 3 A rfl rfl) U;simp only[List.append_nil,Rows.uptoBulkAll,Rows.uptoBulk,Array.length_toList]at X;refine((RN u Z n2 (InW W) W.heap (by have:u.data.size=u.size:=rfl;omega) (RL D)) W rfl).2.mono fun e W' ⟨v,he,g,hv,w⟩=>?_;subst he;subst hv;exact⟨_,rfl,XQ n rfl ⟨rfl,rfl,rfl⟩ AlD (by kernel_rfl) rfl underlying4 g w⟩
theorem MK:Rows.TopBudgetsUptoSaid:=
 OpenClaim.holds_of_cond 3 Tryz.f3 rfl rfl rfl rfl rfl rfl rfl ⟨rfl,rfl,rfl,rfl,rfl⟩ rfl rfl rfl rfl rfl (by as_aux_lemma=>kernel_rfl) func3 (by unfold joinedFacts;(repeat' with_reducible refine Bool.and_eq_true_iff.mpr ⟨?_,?_⟩)<;>as_aux_lemma=>kernel_rfl)
  (of_decide_eq_true (by as_aux_lemma=>kernel_rfl)) (by unfold Func.isWrapper;first | (rw[H_ (by decide+kernel)];kernel_rfl) | (rw[G_ (by decide+kernel)];exact⟨rfl,rfl⟩))
  (fun b a H enc _ F=>by rw[OpenClaim.pre_eq_preRow];exact Lg b a H enc F)
theorem LU(f:FuncId)(fn:Func)(d:Tryz.pinned.checked.prog.funcNamed "loupe/loupetop.TopBudgets" =some f)(a:Tryz.pinned.checked.prog.funcs[f]?=some fn):
  true=Tryz.pinned.checked.prog.looks []∧∀(j:Nat) t,fn.params[j]?=some t→Tryz.pinned.checked.prog.wantsStandIn t=false:=by
 obtain rfl:f=3:=Option.some.inj ((show prog.funcNamed "loupe/loupetop.TopBudgets" =some 3 by kernel_rfl).symm.trans d) |>.symm
 obtain rfl:fn=Tryz.f3:=(Option.some.inj (func3.symm.trans a)).symm;refine⟨by kernel_rfl,fun j t b=>?_⟩;have b:(#[9,3,3]:Array x_)[j]?=some t:=b;have c:=Array.mem_of_getElem? b;simp only[List.mem_toArray,List.mem_cons,List.not_mem_nil,or_false]at c;rcases c with rfl | rfl | rfl
 ·exact(show prog.wantsStandIn 9=false by kernel_rfl)
 ·exact(show prog.wantsStandIn 3=false by kernel_rfl)
 ·exact(show prog.wantsStandIn 3=false by kernel_rfl)
theorem topBudgets_holds:Rows.TopBudgetsUptoCardSaid:=
 Claim7.holds_tied_plain_at .later [] _ _ _ _ MK (fun _ h=>by cases h) (by as_aux_lemma=>kernel_rfl) (fun _ h=>by cases h) topBudgetsUpto_row_tie rfl ⟨rfl,rfl⟩ (by as_aux_lemma=>kernel_rfl) rfl LU (by as_aux_lemma=>kernel_rfl)
#print axioms topBudgets_holds
end
end Go.Proofs.YtjbnocjgdmnkoaaGreatDoor
