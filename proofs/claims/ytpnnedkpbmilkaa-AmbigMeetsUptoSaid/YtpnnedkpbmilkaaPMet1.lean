/- ambig's Meets: the walks. -/
import Derived.Test.YtpnnedkpbmilkaaPCatI
set_option linter.unusedVariables false
set_option linter.unusedSimpArgs false
set_option maxRecDepth 100000
namespace Go.Proofs.Ytpnnedkpbmilkaa
open Go.VC
attribute [local irreducible] mRun gRun atRun
set_option maxHeartbeats 8000000 in
theorem meet1_c {S : Nat → Prop} {H : Heap} {pa pb : Nat} {a b : Option AM} (hS : ∀ k, S k → k < H.size) (ha : VarA S H pa a) (hb : VarA S H pb b) (n : Nd) {c : Nat} (hc : c < 256) :
    FnOk Try.prog 76 #[ndV n, .int .u8 (c : Int), .pointer (some ⟨pa, 0, none⟩), .pointer (some ⟨pb, 0, none⟩)] H fun v H' => Agr (Old H) H H' ∧ SlO tNd none_ H' H.size 114 v ((meetG a b).next n c) := by
  refine FnOk.of_vc Try.func76 rfl (Try.call76 _) ?_
  have hup : ∀ {H' : Heap} {ps : List Pc}, St H H' ps → ∀ k, S k → k < H'.size := fun st k hk => st.up (hS k hk)
  (conv => whnf); refine vbox (ndL n) rfl ?_
  intro p1 H1 hp1 hs1 hb1 ha1
  have st1 := (St.nil H).box hp1 hs1 hb1 ha1
  have q1 := st1.blk 0 rfl
  (conv => whnf); refine VDraw.held (Old H1) 12 (sq [0,1,2,3,5,6,7,8] (.f 4 (.f 9 (sq [10] (.f 11 (.f 12 .e)))))) rfl (by kernel_rfl) ?_
  (conv => whnf); refine (ha.frame (st1.old.mono hS)).ld (hup st1) fun va hva => ?_
  (conv => whnf); refine fa fl114_1 ?_
  (conv => whnf); refine ld1 ct3 (ndx1 q1) q1.lt ?_
  (conv => whnf); refine (hb.frame (st1.old.mono hS)).ld (hup st1) fun vb hvb => ?_
  (conv => whnf); refine fa fl114_2 ?_
  (conv => whnf); refine ld1 ct3 (ndx2 q1) q1.lt ?_
  (conv => whnf); refine pures (step_p (hup st1) hva hc) fun H2 ha2 => ?_
  have st2 := st1.call ha2
  refine ⟨ha2, ?_⟩
  (conv => whnf); refine pures (step_p (hup st2) (hvb.frame (ha2.mono fun k hk => hup st1 k hk)) hc) fun H3 ha3 => ?_
  have st3 := st2.call ha3
  have ha13 : Agr (Old H1) H1 H3 := ha2.trans (ha3.mono fun k hk => old_lt ha2 hk)
  refine ⟨ha13, ?_⟩
  (conv => whnf); refine vbuildS Try.underlying114 rfl (ndV root) node_z (ndL ⟨0, stepM a n.x c, stepM b n.y c⟩) rfl ?_
  (conv => whnf); refine vbuild1 sl115 (ndL ⟨0, stepM a n.x c, stepM b n.y c⟩) rfl rfl (by decide) (by decide) ?_
  intro q4 H4 hq4 hs4 hb4 ha4
  have st4 := nodes1 st3 hq4 hs4 hb4 ha4
  refine ⟨ha13.trans (ha4.mono fun k hk => by have := old_lt ha13 hk; omega), ?_⟩
  (conv => whnf)
  exact ⟨st4.old, St.own st4 1 rfl⟩
theorem meet2_p {S : Nat → Prop} {H : Heap} {pa pb : Nat} {a b : Option AM} (hS : ∀ k, S k → k < H.size) (ha : VarA S H pa a) (hb : VarA S H pb b) (n : Nd) :
    Pure Try.prog 77 #[ndV n, .pointer (some ⟨pa, 0, none⟩), .pointer (some ⟨pb, 0, none⟩)] H (.bool ((meetG a b).ends n)) := by
  refine FnOk.of_vc Try.func77 rfl (Try.call77 _) ?_
  (conv => whnf); refine vbox (ndL n) rfl ?_
  intro p1 H1 hp1 hs1 hb1 ha1
  have st1 := (St.nil H).box hp1 hs1 hb1 ha1
  have q1 := st1.blk 0 rfl
  have e : (meetG a b).ends n = (finM a n.x && finM b n.y) := rfl
  rw [e]
  (conv => whnf); refine (ha.frame (st1.old.mono hS)).ld (fun _ _ => trivial) fun va hva => ?_
  (conv => whnf); refine fa fl114_1 ?_
  (conv => whnf); refine ld1 ct3 (ndx1 q1) trivial ?_
  (conv => whnf); refine pures (final_p hva) fun H2 ha2 => ?_
  have st2 := st1.call ha2
  have q2 := st2.blk 0 rfl
  cases hf : finM a n.x with
  | false =>
    (conv => whnf)
    exact ⟨rfl, st2.old⟩
  | true =>
    (conv => whnf); refine (hb.frame (st2.old.mono hS)).ld (fun _ _ => trivial) fun vb hvb => ?_
    (conv => whnf); refine fa fl114_2 ?_
    (conv => whnf); refine ld1 ct3 (ndx2 q2) trivial ?_
    (conv => whnf); refine pures (final_p hvb) fun H3 ha3 => ?_
    have st3 := st2.call ha3
    (conv => whnf)
    exact ⟨rfl, st3.old⟩
set_option maxHeartbeats 8000000 in
theorem meets_c {S : Nat → Prop} {H : Heap} {va vb : Value} {a b : Option AM} (hS : ∀ k, S k → k < H.size) (ha : AutoV S H va a) (hb : AutoV S H vb b) (hca : ∃ ls, CellsOk a ls) (hcb : ∃ ls, CellsOk b ls) :
    FnOk Try.prog 51 #[va, vb] H fun v H' => Agr (Old H) H H' ∧ ∃ w ok, v = .tuple #[.string (bA w), .bool ok] ∧ FirstR (meetG a b) w ok ∧ w.length ≤ 1099511627776 := by
  refine FnOk.of_vc Try.func51 rfl (Try.call51 _) ?_
  have hup : ∀ {H' : Heap} {ps : List Pc}, St H H' ps → ∀ k, S k → k < H'.size := fun st k hk => st.up (hS k hk)
  (conv => whnf); refine vbox [va] ha.cells.1 ?_
  intro p1 H1 hp1 hs1 hb1 ha1
  have st1 := (St.nil H).box hp1 hs1 hb1 ha1
  (conv => whnf); refine vbox [vb] hb.cells.1 ?_
  intro p2 H2 hp2 hs2 hb2 ha2
  have st3 := st1.box hp2 hs2 hb2 ha2
  (conv => whnf); refine ld1 (v := va) ct31 (by rw [(st3.blk 0 rfl).cell]; rfl) trivial ?_
  (conv => whnf); refine ld1 (v := vb) ct31 (by rw [(st3.blk 1 rfl).cell]; rfl) trivial ?_
  (conv => whnf); refine vbuild2 sl125 [va] [vb] ha.cells.1 hb.cells.1 rfl rfl (by decide) (by decide) ?_
  intro q4 H4 hq4 hs4 hb4 ha4
  have st4 := st3.skip hq4 ha4
  have hsl : SlD tV (Old H4) H4 (some ⟨q4, 0, none⟩) 2 ([(va, a), (vb, b)].map (·.1)) := SlD.ofBlk hb4 (show q4 < H4.size by omega) ⟨[va], [vb], rfl, rfl, Ty.reps_one rfl⟩ rfl (by decide)
  (conv => whnf); refine VCall.mk (reps_c (S := Old H4) (os := [(va, a), (vb, b)]) (fun k hk => hk) hsl (by simp) (fun x hx => ?_)) ?_
  · rcases List.mem_cons.1 hx with rfl | hx
    · exact ⟨(ha.frame (st4.old.mono hS)).mono (hup st4), hca⟩
    · rw [List.mem_singleton] at hx
      subst hx
      exact ⟨(hb.frame (st4.old.mono hS)).mono (hup st4), hcb⟩
  rintro _ H5 ⟨ha5, hown5⟩
  obtain ⟨a5, c5, rfl, st5⟩ := st4.got ha5 hown5
  have hcell : ∀ o ∈ [a, b], ∀ s ∈ cellsM o, s ∈ allCells [(va, a), (vb, b)] := fun o ho s hs => by
    unfold allCells
    simp only [List.flatMap_cons, List.flatMap_nil, List.append_nil, List.mem_append]
    rcases List.mem_cons.1 ho with rfl | ho
    · exact .inl hs
    · rw [List.mem_singleton] at ho; subst ho; exact .inr hs
  have hcov := reps_cov2 (os := [a, b]) (fun o ho => by
    rcases List.mem_cons.1 ho with rfl | ho
    · exact hca
    · rw [List.mem_singleton] at ho; subst ho; exact hcb) hcell
  have hlt := reps_lt (allCells [(va, a), (vb, b)])
  have hlen := reps_len2 (allCells [(va, a), (vb, b)])
  have hsort := reps_sorted (allCells [(va, a), (vb, b)])
  clear hcell
  rw [List.length_map] at st5 ⊢
  generalize repsM (allCells [(va, a), (vb, b)]) = by_ at *
  (conv => whnf); refine vbuildS Try.underlying112 rfl _ graph_z [.slice a5 by_.length c5, .nilFunc, .nilFunc] rfl ?_
  (conv => whnf); refine vbox [.slice a5 by_.length c5, .nilFunc, .nilFunc] rfl ?_
  intro p6 H6 hp6 hs6 hb6 ha6
  have st6 := st5.box hp6 hs6 hb6 ha6
  (conv => whnf); refine fa fl112_1 ?_
  (conv => whnf); refine st1B st6 3 ct109 rfl (by simp) rfl fun H7 st7 => ?_
  (conv => whnf); refine fa fl112_2 ?_
  (conv => whnf); refine st1B st7 3 ct110 rfl (by simp) rfl fun H8 st8 => ?_
  have hg := meet_ok ha.steps hb.steps hlt hlen
  have hcg : ∀ c, c < 256 → ∃ r ∈ by_, r ≤ c ∧ ∀ n, (meetG a b).next n r = (meetG a b).next n c := fun c hc => by
    obtain ⟨r, hr, hrc, hall⟩ := hcov c hc
    exact ⟨r, hr, hrc, fun n => meet_cov (hall a (by simp)) (hall b (by simp))⟩
  have va8 : VarA (Old H8) H8 p1 a := ⟨va, (st8.in_ 0 rfl rfl).2, st8.blk 0 rfl, (ha.frame (st8.old.mono hS)).mono (hup st8)⟩
  have vb8 : VarA (Old H8) H8 p2 b := ⟨vb, (st8.in_ 1 rfl rfl).2, st8.blk 1 rfl, (hb.frame (st8.old.mono hS)).mono (hup st8)⟩
  have hv8 : GraphV (Old H8) H8 (.pointer (some ⟨p6, 0, none⟩)) (meetG a b) by_ := ⟨p6, a5, c5, 76, 77, [], [.pointer (some ⟨p1, 0, none⟩), .pointer (some ⟨p2, 0, none⟩)], [], [.pointer (some ⟨p1, 0, none⟩), .pointer (some ⟨p2, 0, none⟩)], rfl,
    (st8.in_ 3 rfl rfl).2, st8.blk 3 rfl, st8.view 2 rfl, fun H' h' n c _ hc => meet1_c (fun k hk => old_lt h' hk) (va8.frame h') (vb8.frame h') n (hlt c hc), fun H' h' n _ => meet2_p (fun k hk => old_lt h' hk) (va8.frame h') (vb8.frame h') n⟩
  (conv => whnf); refine VCall.mk (first_c (fun k hk => hk) hg hcg hsort hv8) ?_
  rintro _ H9 ⟨ha9, w, ok, rfl, hR, hwl⟩
  have st9 := st8.call ha9
  (conv => whnf)
  exact ⟨st9.old, w, ok, rfl, hR, by omega⟩
end Go.Proofs.Ytpnnedkpbmilkaa
