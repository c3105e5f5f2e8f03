/- The law NfaBuildsWith returns true for every text, every net and every int, where what it reads is of bulk at most 1048576, and changes nothing: no other condition. -/
import Derived.Test.YtlnmhfhdjnenoaaGreatDoorKNv9
import Derived.Test.YtlnmhfhdjnenoaaGreatDoorCards
import Derived.Test.YtlnmhfhdjnenoaaGreatDoorTie
import Derived.Deep.DeepHandedRow
set_option maxHeartbeats 64000000
set_option linter.unusedVariables false
set_option linter.unusedSimpArgs false
namespace Go.Proofs.YtlnmhfhdjnenoaaGreatDoor
open Go.ChangeShapes Go.WideShapes Go.ChangeAt Go.RowKit
open Go.ChangeMaps (open_string)
open Go.VC
theorem Ig(os:Os):laidMet Tryz.prog Rows.nfaBuildsWithUptoRow.laid ((Nn os).forCall (fun _ _=>0) ⟨#[], #[.string ⟨#[]⟩,.agg #[.int .i64 0,.int .i64 0,.int .i64 0,.slice none 0 0],.int .i64 0],[]⟩).memory:=
 laidMet_of_run' 100 (by kernel_rfl) (by kernel_rfl)
theorem Hf(os:Os){H:Type}(enc:TypeId×Value→H):∃places,DataW.whole enc Tryz.prog ((Nn os).forCall (fun _ _=>0) ⟨#[], #[.string ⟨#[]⟩,.agg #[.int .i64 0,.int .i64 0,.int .i64 0,.slice none 0 0],.int .i64 0],[]⟩).memory Tryz.f5.params.toList (Rows.OpenSpec.upto Rows.nfaBuildsWithSpec).bare.plain.vars false (#[.string ⟨#[]⟩,.agg #[.int .i64 0,.int .i64 0,.int .i64 0,.slice none 0 0],.int .i64 0]:Array Value).toList 8=some ([.lit (.string []),.agg [.lit (.int .i64 0),.lit (.int .i64 0),.lit (.int .i64 0),.nil],.lit (.int .i64 0)],[],places):=
 ⟨[],by kernel_rfl⟩
set_option maxRecDepth 100000 in
theorem GC(os:Os)(started:os.Started)(H:Type)(enc:TypeId×Value→H)(F:Stop.Interp):
  ReturnsInHanded {} Tryz.checked os 5 .any ((Rows.OpenSpec.upto Rows.nfaBuildsWithSpec).preRow enc Tryz.prog Tryz.f5 Rows.nfaBuildsWithUptoRow.domain false Rows.nfaBuildsWithUptoRow.laid) (((Rows.OpenSpec.upto Rows.nfaBuildsWithSpec).at F).post enc Tryz.prog Tryz.f5 false true false false):=by
 obtain⟨places,hx⟩:=Hf os enc;refine returnsInHanded_of_row (C:=Tryz.checked) (s:=Rows.OpenSpec.upto Rows.nfaBuildsWithSpec) UD started (by kernel_rfl) Tryz.func5
  (witness_row_at (enc:=enc) (C:=Tryz.checked) false (Nn os) #[.string ⟨#[]⟩,.agg #[.int .i64 0,.int .i64 0,.int .i64 0,.slice none 0 0],.int .i64 0] rfl (by kernel_rfl) (by kernel_rfl) (by kernel_rfl)
   (OpenSpec.preRow_of_cond 8 hx (by kernel_rfl) (fun k hk=>by cases hk;kernel_rfl) (by kernel_rfl) (Ig os))) ?_
 intro W base args ds gs before hval0 hW _ hcond _ hL _ _;have hk:=hcond _ rfl;have hval:∀(j:Nat) t v,Tryz.f5.params[j]? =some t→args[j]? =some v→Value.okWide Tryz.prog W .any base t v:=hval0;have hW':=hW;obtain⟨p,q,hA0,hV,rfl,hfz,hnd⟩:=hW;have hA:DataW.TrodAll enc Tryz.prog W 0 (fun _=>true) true [9,53,3] args.toList ds p:=hA0;obtain⟨v0,vs0,d0,ds0,p0,q0,e0,rfl,rfl,h0,r0⟩:=trodAll_cons hA;obtain⟨v1,vs1,d1,ds1,p1,q1,rfl,rfl,rfl,h1,r1⟩:=trodAll_cons r0;obtain⟨v2,vs2,d2,ds2,p2,q2,rfl,rfl,rfl,h2,r2⟩:=trodAll_cons r1;obtain⟨rfl,rfl,rfl⟩:=trodAll_nil r2;obtain rfl:args= #[v0,v1,v2]:=by cases args;simp_all
 obtain⟨rfl,rfl⟩:=trodVars_none hV;have hb:=QH hk;obtain⟨s0,rfl,rfl,rfl,hs0⟩:=open_string Tryz.underlying9 (hval 0 9 v0 rfl rfl) h0;obtain⟨n2,rfl,rfl,rfl,wn2⟩:=open_int Tryz.underlying3 (hval 2 3 v2 rfl rfl) h2;have hb2: -9223372036854775808≤n2∧n2≤9223372036854775807:=by
  simp only [Lit.wf,Bool.and_eq_true,decide_eq_true_eq]at wn2;have h1:IntKind.i64.min= -9223372036854775808:=by decide
  have h2:IntKind.i64.max=9223372036854775807:=by decide
  omega
 simp only [List.append_nil,Rows.uptoBulkAll,Rows.uptoBulk,Array.length_toList]at hb;obtain⟨a1,hnet1,hz1⟩:=Qq (hval 1 _ v1 rfl rfl) h1 (by omega);refine((IW s0 v1 a1 n2 (InW W) W.heap (by have:s0.data.size=s0.size:=rfl;omega) (fun k hk=>hk) hnet1 hb2 (Mk hL)) W rfl).2.mono fun e W' ⟨v,he,henv,hv,hag⟩=>?_;subst he;subst hv;exact⟨_,rfl,Pg hW' rfl ⟨rfl,rfl,rfl⟩ Ub (by kernel_rfl) rfl Tryz.underlying4 henv hag⟩
theorem HG:Rows.NfaBuildsWithUptoSaid:=
 OpenClaim.holds_of_cond 5 Tryz.f5 rfl rfl rfl rfl rfl rfl rfl ⟨rfl,rfl,rfl,rfl,rfl⟩ rfl rfl rfl rfl rfl (by kernel_rfl) Tryz.func5 (by kernel_rfl)
  (of_decide_eq_true (by kernel_rfl)) (by unfold Func.isWrapper;first | (rw [if_pos (by decide+kernel)];kernel_rfl) | (rw [if_neg (by decide+kernel)];exact⟨rfl,rfl⟩))
  (fun os started H enc _ F=>by rw [OpenClaim.pre_eq_preRow];exact GC os started H enc F)
theorem He(f:FuncId)(fn:Func)(hf:Tryz.pinned.checked.prog.funcNamed "loupe/loupelaw04.NfaBuildsWith" =some f)(hfn:Tryz.pinned.checked.prog.funcs[f]? =some fn):
  true=Tryz.pinned.checked.prog.looks []∧∀(j:Nat) t,fn.params[j]? =some t→Tryz.pinned.checked.prog.wantsStandIn t=false:=by
 obtain rfl:f=5:=Option.some.inj ((show Tryz.prog.funcNamed "loupe/loupelaw04.NfaBuildsWith" =some 5 by kernel_rfl).symm.trans hf) |>.symm
 obtain rfl:fn=Tryz.f5:=(Option.some.inj (Tryz.func5.symm.trans hfn)).symm;refine⟨by kernel_rfl,fun j t ht=>?_⟩;have ht:(#[9,53,3]:Array TypeId)[j]? =some t:=ht;have hm:=Array.mem_of_getElem? ht;simp only [List.mem_toArray,List.mem_cons,List.not_mem_nil,or_false]at hm;rcases hm with rfl | rfl | rfl
 ·exact(show Tryz.prog.wantsStandIn 9=false by kernel_rfl)
 ·exact(show Tryz.prog.wantsStandIn 53=false by kernel_rfl)
 ·exact(show Tryz.prog.wantsStandIn 3=false by kernel_rfl)
theorem nfaBuildsWith_holds:Rows.NfaBuildsWithUptoCardSaid:=
 Claim7.holds_tied_plain_at .later [] _ _ _ _ HG (fun _ h=>by cases h) (by kernel_rfl) (fun _ h=>by cases h) nfaBuildsWithUpto_row_tie rfl ⟨rfl,rfl⟩ (by kernel_rfl) rfl He (by kernel_rfl)
#print axioms nfaBuildsWith_holds
end Go.Proofs.YtlnmhfhdjnenoaaGreatDoor
