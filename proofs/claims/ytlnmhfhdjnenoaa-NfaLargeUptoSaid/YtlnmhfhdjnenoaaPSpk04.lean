/- The law's speaks of layer 4. -/
import Derived.Test.YtlnmhfhdjnenoaaPTxt
set_option linter.unusedVariables false
set_option linter.unusedSimpArgs false
set_option maxRecDepth 100000
namespace Go.Proofs.Ytlnmhfhdjnenoaa
open Go.VC
def abNf : NfM := nfaOf (textR [97, 98])
theorem ab_edges : abNf.edges = [setE 0 1 (oneS 97), setE 2 3 (oneS 98), silE 1 2] := rfl
theorem ab_start : abNf.start = 0 := rfl
theorem ab_fin : abNf.fin = 3 := rfl
theorem ab_st : abNf.st = 4 := rfl
theorem ab_has {q : Int} (h0 : 0 ≤ q) (h1 : q < 4) : abNf.has q = true := NfM.has_iff.2 ⟨h0, by rw [ab_st]; exact h1, by rw [ab_st]; decide⟩
theorem ab_yes : accN abNf [97, 98] = true := by
  rw [acc_way, ab_start, ab_fin]
  refine Way.hop (a := abNf) (e := setE 0 1 (oneS 97)) (by rw [ab_edges]; simp) rfl (by decide +kernel) (ab_has (by decide) (by decide)) ?_
  refine Way.sil (a := abNf) (e := silE 1 2) (by rw [ab_edges]; simp) rfl (ab_has (by decide) (by decide)) ?_
  refine Way.hop (a := abNf) (e := setE 2 3 (oneS 98)) (by rw [ab_edges]; simp) rfl (by decide +kernel) (ab_has (by decide) (by decide)) ?_
  exact .nil (ab_has (by decide) (by decide))
theorem ab_no : accN abNf [97] = false := by
  rw [Bool.eq_false_iff]
  intro h
  rw [accN_iff, ab_fin] at h
  have h1 : ∀ q, begS abNf q → q = 0 := clS_least (fun q h => h.1) fun e he hs _ h => by
    rw [ab_edges] at he
    simp only [List.mem_cons, List.not_mem_nil, or_false] at he
    rcases he with rfl | rfl | rfl
    · cases hs
    · cases hs
    · exact absurd h (by decide)
  have h2 : ∀ q, goS abNf (begS abNf) 97 q → q = 1 ∨ q = 2 := clS_least (fun q ⟨e, he, hs, hb, hx, _, hq⟩ => by
    rw [ab_edges] at he
    simp only [List.mem_cons, List.not_mem_nil, or_false] at he
    rcases he with rfl | rfl | rfl
    · exact .inl hq
    · exact absurd (h1 _ hx) (by decide)
    · cases hs) fun e he hs _ h => by
    rw [ab_edges] at he
    simp only [List.mem_cons, List.not_mem_nil, or_false] at he
    rcases he with rfl | rfl | rfl
    · cases hs
    · cases hs
    · exact .inr rfl
  rcases h2 3 h with h | h <;> exact absurd h (by decide)
set_option maxHeartbeats 4000000 in
theorem speaks04_p (H : Heap) : Pure Try.prog 7 #[] H (.bool true) := by
  refine FnOk.of_vc Try.func7 rfl (Try.call7 _) ?_
  (conv => whnf); refine pures (text_p ⟨#[97, 98]⟩ (by decide) H) fun H1 ha1 => ?_
  have st1 := (St.nil H).call ha1
  (conv => whnf); refine VCall.mk (build_c (textR (byN ⟨#[97, 98]⟩)) (textR_plain _) (by decide) H1) ?_
  rintro v H2 ⟨ha2, hv⟩
  rw [if_neg (show ¬ 2000 < (textR (byN ⟨#[97, 98]⟩)).nodes by decide)] at hv
  obtain ⟨ea, ec, rfl, hown⟩ := hv
  change SlO tEd none_ H2 H1.size 81 (.slice ea abNf.edges.length ec) abNf.edges at hown
  obtain ⟨ea', ec', e2, st2⟩ := st1.got ha2 hown
  injection e2 with e21 e22 e23
  subst e21; subst e23
  (conv => whnf); refine valloc _ [.int .i64 0, .int .i64 0, .int .i64 0, .slice none 0 0] nfa_z rfl ?_
  intro p H3 hp hs3 hb3 ha3
  have st3 := st2.box hp hs3 hb3 ha3
  (conv => whnf); refine stNB (cs := nfL abNf (.slice ea abNf.edges.length ec)) st3 1 rfl rfl (Nat.le_refl _) rfl fun H4 st4 => ?_
  rw [splice_all (show (nfL abNf (.slice ea abNf.edges.length ec)).length = 4 from rfl)] at st4
  have hb := st4.blk 1 rfl
  (conv => whnf); refine fa fl25_0 ?_
  (conv => whnf); refine ld1 (v := .int .i64 4) ct3 (by rw [hb.cell]; rfl) trivial ?_
  (conv => whnf); refine fa fl25_2 ?_
  (conv => whnf); refine ld1 (v := .int .i64 3) ct3 (by rw [hb.cell]; rfl) trivial ?_
  have hr : abNf.Rng := ⟨kint (by rw [ab_st]; decide), kint (by rw [ab_start]; decide), kint (by rw [ab_fin]; decide)⟩
  have hl : abNf.edges.length ≤ 1048576 := by rw [ab_edges]; decide
  (conv => whnf); refine nf_load hr hl hb ag25 trivial (st4.view 0 rfl) fun v5 hv5 => ?_
  (conv => whnf); refine pures (accepts_n (s := ⟨#[97, 98]⟩) (fun k hk => hk) hv5 (by decide)) fun H5 ha5 => ?_
  have st5 := st4.call ha5
  rw [show accN abNf (byN ⟨#[97, 98]⟩) = true from ab_yes]
  (conv => whnf); refine nf_load hr hl (st5.blk 1 rfl) ag25 trivial (st5.view 0 rfl) fun v6 hv6 => ?_
  (conv => whnf); refine pures (accepts_n (s := ⟨#[97]⟩) (fun k hk => hk) hv6 (by decide)) fun H6 ha6 => ?_
  have st6 := st5.call ha6
  rw [show accN abNf (byN ⟨#[97]⟩) = false from ab_no]
  (conv => whnf)
  exact ⟨rfl, st6.old⟩
end Go.Proofs.Ytlnmhfhdjnenoaa
