/- LangLeast: of any expression (of up to 1048576 bytes) and any number: Need tells the least budget with which Build succeeds; greater ones give the same automaton, lesser ones none; where there is no such budget the document says the same error. -/
import Derived.Test.YtfbghcpdinlmcaaGreatDoorKLy8
import Derived.Test.YtfbghcpdinlmcaaGreatDoorCards
import Derived.Test.YtfbghcpdinlmcaaGreatDoorTie
set_option maxHeartbeats 0
open Go.Proofs.Tryz
open Go renaming TypeId → x_, Value → v_
set_option linter.unusedVariables false
set_option linter.unusedSimpArgs false
set_option linter.defProp false
namespace Go.Proofs.YtfbghcpdinlmcaaGreatDoor
section
open Go.ChangeShapes Go.WideShapes Go.ChangeAt Go.RowKit
open Go.ChangeMaps (open_string)
theorem PZ(os:Os):laidMet prog Rows.langLeastUptoRow.laid ((Vh os).forCall (fun _ _=>0) ⟨#[], #[.string ⟨#[]⟩,A_ 0],[]⟩).memory:=
 laidMet_of_run' 100 (by kernel_rfl) (by kernel_rfl)
theorem NE(os:Os){H:Type}(enc:x_×v_→H):∃a,DataW.whole enc prog ((Vh os).forCall (fun _ _=>0) ⟨#[], #[.string ⟨#[]⟩,A_ 0],[]⟩).memory Tryz.f7.params.toList (Rows.OpenSpec.upto Rows.langLeastSpec).bare.plain.vars false (#[.string ⟨#[]⟩,A_ 0]:Array v_).toList 8=some ([.lit (.string []),.lit (.int .i64 0)],[],a):=
 ⟨[],by kernel_rfl⟩
set_option maxRecDepth 100000 in
theorem MG(os:Os)(b:os.Started)(H:Type)(enc:x_×v_→H)(F:Stop.Interp):
  ReturnsInHanded {} Tryz.checked os 7 .any ((Rows.OpenSpec.upto Rows.langLeastSpec).preRow enc prog Tryz.f7 Rows.langLeastUptoRow.domain false Rows.langLeastUptoRow.laid) (((Rows.OpenSpec.upto Rows.langLeastSpec).at F).post enc prog Tryz.f7 false true false false):=by
 have⟨i,A⟩:=NE os enc;refine returnsInHanded_of_row (C:=Tryz.checked) (s:=Rows.OpenSpec.upto Rows.langLeastSpec) lO b (by kernel_rfl) func7
  (witness_row_at (enc:=enc) (C:=Tryz.checked) false (Vh os) #[.string ⟨#[]⟩,A_ 0] rfl (by kernel_rfl) (by kernel_rfl) (by kernel_rfl)
   (OpenSpec.preRow_of_cond 8 A (by kernel_rfl) (fun k m=>by cases m;kernel_rfl) (by kernel_rfl) (PZ os))) ?_
 intro W g a ds X l d w _ f _ x _ _;have m:=f _ rfl;have c:∀(j:Nat) t v,Tryz.f7.params[j]?=some t→a[j]?=some v→Value.okWide prog W .any g t v:=d;have n:=w;obtain⟨p,q,o,B,rfl,D,E⟩:=w;have G:DataW.TrodAll enc prog W 0 (fun _=>true) true [9,3] a.toList ds p:=o;obtain⟨y,I,Y,J,Z,q0,e0,rfl,rfl,K,L⟩:=trodAll_cons G;obtain⟨z,M,d1,N,p1,q1,rfl,rfl,rfl,O,P⟩:=trodAll_cons L;obtain⟨rfl,rfl,rfl⟩:=trodAll_nil P;obtain rfl:a= #[y,z]:=by cases a;simp_all
 obtain⟨rfl,rfl⟩:=trodVars_none B;have Q:=fF m;obtain⟨r,rfl,rfl,rfl,R⟩:=open_string underlying9 (c 0 9 y rfl rfl) K;obtain⟨S,rfl,rfl,rfl,T⟩:=open_int underlying3 (c 1 3 z rfl rfl) O;simp only[List.append_nil,Rows.uptoBulkAll,Rows.uptoBulk,Array.length_toList]at Q;refine((TA r S (InW W) W.heap (by have:r.data.size=r.size:=rfl;omega) (Mu x).1 (Mu x).2) W rfl).2.mono fun e W' ⟨v,U,h,V,u⟩=>?_;subst U;subst V;exact⟨_,rfl,XP n rfl ⟨rfl,rfl,rfl⟩ Aj7 (by kernel_rfl) rfl underlying4 h u⟩
theorem Pb:Rows.LangLeastUptoSaid:=
 OpenClaim.holds_of_cond 7 Tryz.f7 rfl rfl rfl rfl rfl rfl rfl ⟨rfl,rfl,rfl,rfl,rfl⟩ rfl rfl rfl rfl rfl (by as_aux_lemma=>kernel_rfl) func7 (by unfold joinedFacts;(repeat' with_reducible refine Bool.and_eq_true_iff.mpr ⟨?_,?_⟩)<;>as_aux_lemma=>kernel_rfl)
  (of_decide_eq_true (by as_aux_lemma=>kernel_rfl)) (by unfold Func.isWrapper;first | (rw[I_ (by decide+kernel)];kernel_rfl) | (rw[G_ (by decide+kernel)];exact⟨rfl,rfl⟩))
  (fun b a H enc _ F=>by rw[OpenClaim.pre_eq_preRow];exact MG b a H enc F)
theorem ND(f:FuncId)(fn:Func)(d:Tryz.pinned.checked.prog.funcNamed "loupe/loupelaw06.LangLeast" =some f)(a:Tryz.pinned.checked.prog.funcs[f]?=some fn):
  true=Tryz.pinned.checked.prog.looks []∧∀(j:Nat) t,fn.params[j]?=some t→Tryz.pinned.checked.prog.wantsStandIn t=false:=by
 obtain rfl:f=7:=Option.some.inj ((show prog.funcNamed "loupe/loupelaw06.LangLeast" =some 7 by kernel_rfl).symm.trans d) |>.symm
 obtain rfl:fn=Tryz.f7:=(Option.some.inj (func7.symm.trans a)).symm;refine⟨by kernel_rfl,fun j t b=>?_⟩;have b:(#[9,3]:Array x_)[j]?=some t:=b;have c:=Array.mem_of_getElem? b;simp only[List.mem_toArray,List.mem_cons,List.not_mem_nil,or_false]at c;rcases c with rfl | rfl
 ·exact(show prog.wantsStandIn 9=false by kernel_rfl)
 ·exact(show prog.wantsStandIn 3=false by kernel_rfl)
theorem langLeast_holds:Rows.LangLeastUptoCardSaid:=
 Claim7.holds_tied_plain_at .later [] _ _ _ _ Pb (fun _ h=>by cases h) (by as_aux_lemma=>kernel_rfl) (fun _ h=>by cases h) langLeastUpto_row_tie rfl ⟨rfl,rfl⟩ (by as_aux_lemma=>kernel_rfl) rfl ND (by as_aux_lemma=>kernel_rfl)
#print axioms langLeast_holds
end
end Go.Proofs.YtfbghcpdinlmcaaGreatDoor
