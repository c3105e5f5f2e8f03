/- AmbigTexts: of any two expressions and any word (each of up to 1048576 bytes): where their concatenation is said to be unambiguous the word has no two cuts by the definition of membership; where a word is told it has them. -/
import Derived.Test.YtelngokgpnphfaaGreatDoorKAy8
import Derived.Test.YtelngokgpnphfaaGreatDoorCards
import Derived.Test.YtelngokgpnphfaaGreatDoorTie
set_option maxHeartbeats 0
open Go.Proofs.Tryz
open Go renaming TypeId → x_, Value → v_
set_option linter.unusedVariables false
set_option linter.unusedSimpArgs false
set_option linter.defProp false
namespace Go.Proofs.YtelngokgpnphfaaGreatDoor
section
open Go.ChangeShapes Go.WideShapes Go.ChangeAt Go.RowKit
open Go.ChangeMaps (open_string)
theorem P6(os:Os):laidMet prog Rows.ambigTextsUptoRow.laid ((WY os).forCall (fun _ _=>0) ⟨#[], #[.string ⟨#[]⟩,.string ⟨#[]⟩,.string ⟨#[]⟩],[]⟩).memory:=
 laidMet_of_run' 100 (by kernel_rfl) (by kernel_rfl)
theorem Nt(os:Os){H:Type}(enc:x_×v_→H):∃a,DataW.whole enc prog ((WY os).forCall (fun _ _=>0) ⟨#[], #[.string ⟨#[]⟩,.string ⟨#[]⟩,.string ⟨#[]⟩],[]⟩).memory Tryz.f3.params.toList (Rows.OpenSpec.upto Rows.ambigTextsSpec).bare.plain.vars false (#[.string ⟨#[]⟩,.string ⟨#[]⟩,.string ⟨#[]⟩]:Array v_).toList 8=some ([.lit (.string []),.lit (.string []),.lit (.string [])],[],a):=
 ⟨[],by kernel_rfl⟩
set_option maxRecDepth 100000 in
theorem M0(os:Os)(b:os.Started)(H:Type)(enc:x_×v_→H)(F:Stop.Interp):
  ReturnsInHanded {} Tryz.checked os 3 .any ((Rows.OpenSpec.upto Rows.ambigTextsSpec).preRow enc prog Tryz.f3 Rows.ambigTextsUptoRow.domain false Rows.ambigTextsUptoRow.laid) (((Rows.OpenSpec.upto Rows.ambigTextsSpec).at F).post enc prog Tryz.f3 false true false false):=by
 have⟨i,E⟩:=Nt os enc;refine returnsInHanded_of_row (C:=Tryz.checked) (s:=Rows.OpenSpec.upto Rows.ambigTextsSpec) kN b (by kernel_rfl) func3
  (witness_row_at (enc:=enc) (C:=Tryz.checked) false (WY os) #[.string ⟨#[]⟩,.string ⟨#[]⟩,.string ⟨#[]⟩] rfl (by kernel_rfl) (by kernel_rfl) (by kernel_rfl)
   (OpenSpec.preRow_of_cond 8 E (by kernel_rfl) (fun k m=>by cases m;kernel_rfl) (by kernel_rfl) (P6 os))) ?_
 intro W g a ds gs l d y _ f _ z _ _;have m:=f _ rfl;have c:∀(j:Nat) t v,Tryz.f3.params[j]?=some t→a[j]?=some v→Value.okWide prog W .any g t v:=d;have n:=y;obtain⟨p,q,o,G,rfl,I,J⟩:=y;have K:DataW.TrodAll enc prog W 0 (fun _=>true) true [9,9,9] a.toList ds p:=o;obtain⟨A,L,d0,M,p0,q0,e0,rfl,rfl,N,O⟩:=trodAll_cons K;obtain⟨B,P,d1,Q,p1,q1,rfl,rfl,rfl,R,S⟩:=trodAll_cons O;obtain⟨D,T,d2,U,p2,q2,rfl,rfl,rfl,V,X⟩:=trodAll_cons S;obtain⟨rfl,rfl,rfl⟩:=trodAll_nil X;obtain rfl:a= #[A,B,D]:=by cases a;simp_all
 obtain⟨rfl,rfl⟩:=trodVars_none G;have Y:=AfG m;obtain⟨r,rfl,rfl,rfl,Z⟩:=open_string underlying9 (c 0 9 A rfl rfl) N;obtain⟨u,rfl,rfl,rfl,a0⟩:=open_string underlying9 (c 1 9 B rfl rfl) R;obtain⟨w,rfl,rfl,rfl,a1⟩:=open_string underlying9 (c 2 9 D rfl rfl) V;simp only[List.append_nil,Rows.uptoBulkAll,Rows.uptoBulk,Array.length_toList]at Y;refine((S7 r u w (InW W) W.heap (by have:r.data.size=r.size:=rfl;omega) (by have:u.data.size=u.size:=rfl;omega) (by have:w.data.size=w.size:=rfl;omega) (Nm z).1 (Nm z).2) W rfl).2.mono fun e W' ⟨v,he,h,hv,x⟩=>?_;subst he;subst hv;exact⟨_,rfl,dE n rfl ⟨rfl,rfl,rfl⟩ Ao8 (by kernel_rfl) rfl underlying4 h x⟩
theorem OD:Rows.AmbigTextsUptoSaid:=
 OpenClaim.holds_of_cond 3 Tryz.f3 rfl rfl rfl rfl rfl rfl rfl ⟨rfl,rfl,rfl,rfl,rfl⟩ rfl rfl rfl rfl rfl (by as_aux_lemma=>kernel_rfl) func3 (by unfold joinedFacts;(repeat' with_reducible refine Bool.and_eq_true_iff.mpr ⟨?_,?_⟩)<;>as_aux_lemma=>kernel_rfl)
  (of_decide_eq_true (by as_aux_lemma=>kernel_rfl)) (by unfold Func.isWrapper;first | (rw[J_ (by decide+kernel)];kernel_rfl) | (rw[I_ (by decide+kernel)];exact⟨rfl,rfl⟩))
  (fun b a H enc _ F=>by rw[OpenClaim.pre_eq_preRow];exact M0 b a H enc F)
theorem Ns(f:FuncId)(fn:Func)(d:Tryz.pinned.checked.prog.funcNamed "loupe/loupelaw09.AmbigTexts" =some f)(a:Tryz.pinned.checked.prog.funcs[f]?=some fn):
  true=Tryz.pinned.checked.prog.looks []∧∀(j:Nat) t,fn.params[j]?=some t→Tryz.pinned.checked.prog.wantsStandIn t=false:=by
 obtain rfl:f=3:=Option.some.inj ((show prog.funcNamed "loupe/loupelaw09.AmbigTexts" =some 3 by kernel_rfl).symm.trans d) |>.symm
 obtain rfl:fn=Tryz.f3:=(Option.some.inj (func3.symm.trans a)).symm;refine⟨by kernel_rfl,fun j t b=>?_⟩;have b:(#[9,9,9]:Array x_)[j]?=some t:=b;have c:=Array.mem_of_getElem? b;simp only[List.mem_toArray,List.mem_cons,List.not_mem_nil,or_false]at c;rcases c with rfl | rfl | rfl
 ·exact(show prog.wantsStandIn 9=false by kernel_rfl)
 ·exact(show prog.wantsStandIn 9=false by kernel_rfl)
 ·exact(show prog.wantsStandIn 9=false by kernel_rfl)
theorem ambigTexts_holds:Rows.AmbigTextsUptoCardSaid:=
 Claim7.holds_tied_plain_at .later [] _ _ _ _ OD (fun _ h=>by cases h) (by as_aux_lemma=>kernel_rfl) (fun _ h=>by cases h) ambigTextsUpto_row_tie rfl ⟨rfl,rfl⟩ (by as_aux_lemma=>kernel_rfl) rfl Ns (by as_aux_lemma=>kernel_rfl)
#print axioms ambigTexts_holds
end
end Go.Proofs.YtelngokgpnphfaaGreatDoor
