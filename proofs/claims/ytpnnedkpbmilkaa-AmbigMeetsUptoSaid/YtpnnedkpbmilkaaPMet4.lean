/- louperef09.Meets; the law AmbigMeets: the walks. -/
import Derived.Test.YtpnnedkpbmilkaaPMet3
import Derived.Test.YtpnnedkpbmilkaaPAut09
set_option linter.unusedVariables false
set_option linter.unusedSimpArgs false
set_option maxRecDepth 100000
namespace Go.Proofs.Ytpnnedkpbmilkaa
open Go.VC
attribute [local irreducible] oneM mRun gRun atRun
theorem refmeets_c {S : Nat → Prop} {H : Heap} {vA vB : Value} {a b : Option AM} {A B : DM} (hS : ∀ k, S k → k < H.size) (hvA : DfaV S H vA A) (hvB : DfaV S H vB B) (ha : Both a A) (hb : Both b B) (sa : StepOk a) (sb : StepOk b) :
    FnOk Try.prog 52 #[vA, vB] H fun v H' => Agr (Old H) H H' ∧ ∃ w ok, v = .tuple #[.string (bA w), .bool ok] ∧ FirstR (meetG a b) w ok := by
  refine FnOk.of_vc Try.func52 rfl (Try.call52 _) ?_
  (conv => whnf); refine dfa_box hvA fun ra rc na nc fal fc he a1 a2 a3 => ?_
  subst he
  intro p1 H1 hp1 hs1 hb1 ha1
  have st1 := (St.nil H).box hp1 hs1 hb1 ha1
  (conv => whnf); refine dfa_box (hvB.frame (st1.old.mono hS)) fun ra' rc' na' nc' fal' fc' he b1 b2 b3 => ?_
  subst he
  intro p2 H2 hp2 hs2 hb2 ha2
  have st2 := st1.box hp2 hs2 hb2 ha2
  have hlA := (dfa_len hvA).1
  have hlB := (dfa_len hvB).1
  generalize dfaL A.cell (.slice ra A.reps.length rc) (.slice na A.next.length nc) (.slice fal A.final.length fc) = la at *
  generalize dfaL B.cell (.slice ra' B.reps.length rc') (.slice na' B.next.length nc') (.slice fal' B.final.length fc') = lb at *
  have hup : ∀ k, S k → k < H2.size := fun k hk => st2.up (hS k hk)
  (conv => whnf); refine ldN (cs := la) (by rw [hlA]; exact ag37) ((st2.blk 0 rfl).cells fun j v hv => by rw [Nat.zero_add]; exact hv) trivial ?_
  (conv => whnf); refine ldN (cs := lb) (by rw [hlB]; exact ag37) ((st2.blk 1 rfl).cells fun j v hv => by rw [Nat.zero_add]; exact hv) trivial ?_
  (conv => whnf); refine VCall.mk (first7_c hup (hvA.frame (st2.old.mono hS)) (hvB.frame (st2.old.mono hS)) ha hb sa sb) ?_
  rintro _ H3 ⟨ha3, w, ok, rfl, hR⟩
  have st3 := st2.call ha3
  (conv => whnf)
  exact ⟨st3.old, w, ok, rfl, hR⟩
theorem Both.steps {o : Option AM} {D : DM} (h : Both o D) : StepOk o :=
  ⟨by rw [h.n]; exact h.ok.n1, by rw [h.n]; exact h.ok.n2, fun q b hq hb => by
    have := stepD_range h.ok hq.1 (by have := hq.2; rw [h.n] at this; exact this) hb
    unfold inA
    rw [h.step q b hb, h.n]
    exact this⟩
theorem meet_acc {a b : Option AM} {w : List Nat} {ok : Bool} (h : FirstR (meetG a b) w ok) : (acceptsM a (bA w) && acceptsM b (bA w)) = ok := by
  cases ok with
  | true =>
    have hw := (h.1 rfl).1
    have hb := hw.2.1
    obtain ⟨n, rfl, hn⟩ := hw.2.2.1
    obtain ⟨h1, h2⟩ := (meet_root a b w).1 hn
    rw [acc_bA hb, acc_bA hb, h1, h2]; rfl
  | false =>
    obtain ⟨rfl, hno⟩ := h.2 rfl
    have hb : bytes_ [] := fun b hb => by cases hb
    rw [acc_bA hb, acc_bA hb]
    apply Bool.eq_false_iff.2
    intro e
    rw [Bool.and_eq_true] at e
    exact hno [] hb ⟨root, rfl, (meet_root a b []).2 e⟩
theorem meet_last {a b : Option AM} {w : List Nat} {ok : Bool} (h : FirstR (meetG a b) w ok) {s : ByteArray} (h1 : acceptsM a s = true) (h2 : acceptsM b s = true) : ok = true ∧ aheadM s (bA w) = false := by
  have hl : Leads (meetG a b) (unB s) root := (meet_root a b _).2 ⟨by rw [← acc_bA (unB_bytes s), bA_unB]; exact h1, by rw [← acc_bA (unB_bytes s), bA_unB]; exact h2⟩
  cases ok with
  | false => exact absurd ⟨root, rfl, hl⟩ ((h.2 rfl).2 (unB s) (unB_bytes s))
  | true => exact ⟨rfl, (h.1 rfl).not_ahead hl⟩
set_option maxHeartbeats 8000000 in
theorem ambigMeets_p (v : Value) (cells : List (BitVec 256)) (next : List (List Int)) (final : List Bool) (v' : Value) (cells' : List (BitVec 256)) (next' : List (List Int)) (final' : List Bool) (s : ByteArray) (S : Nat → Prop) (H : Heap) (ht : TabIn S H v cells next final) (hu : TabIn S H v' cells' next' final') (hs : s.size ≤ 1048576) :
    Pure Try.prog 13 #[v, v', .string s] H (.bool true) := by
  refine FnOk.of_vc Try.func13 rfl (Try.call13 _) ?_
  (conv => whnf); refine tab_box ht fun l hl hv => ?_
  intro p H1 hp hs1 hb1 ha1
  have st1 := (St.nil H).box hp hs1 hb1 ha1
  (conv => whnf); refine tab_box (hu.frame st1.old) fun l' hl' hv' => ?_
  intro p' H2 hp' hs2 hb2 ha2
  have st2 := st1.box hp' hs2 hb2 ha2
  (conv => whnf); refine pures (speaks09_p H2) fun H3 ha3 => ?_
  have st3 := st2.call ha3
  (conv => whnf); refine VDraw.held (Old H3) 5 (sq [0,2] (.f 1 (.f 3 (sq [4] (.f 5 .e))))) rfl (by kernel_rfl) ?_
  (conv => whnf); refine tab_load hl hv (st3.blk 0 rfl) (st3.blk 0 rfl).lt ?_
  (conv => whnf); refine tab_load hl' hv' (st3.blk 1 rfl) (st3.blk 1 rfl).lt ?_
  (conv => whnf); refine VCall.mk (auto09_c v cells next final S H3 (ht.frame st3.old)) ?_
  rintro va H4 ⟨ha4, hs4, hva⟩
  have st4 := st3.call ha4
  refine ⟨ha4, ?_⟩
  (conv => whnf); refine VCall.mk (auto09_c v' cells' next' final' S H4 (hu.frame st4.old)) ?_
  rintro vb H5 ⟨ha5, hs5, hvb⟩
  have st5 := st4.call ha5
  have h35 := ha4.trans (ha5.mono fun k hk => old_lt ha4 hk)
  refine ⟨h35, ?_⟩
  have hca := cells_ok cells next final
  have hcb := cells_ok cells' next' final'
  have hva5 : AutoV (Old H5) H5 va (autoOf cells next final) := (hva.frame (ha5.mono fun k hk => hk.2)).mono fun k hk => old_lt ha5 hk.2
  have hvb5 : AutoV (Old H5) H5 vb (autoOf cells' next' final') := hvb.mono fun k hk => hk.2
  (conv => whnf); refine VCall.mk (meets_c (S := Old H5) (fun k hk => hk) hva5 hvb5 hca hcb) ?_
  rintro _ H6 ⟨ha6, w, ok, rfl, hR, hwl⟩
  have st6 := st5.call ha6
  (conv => whnf); refine VDraw.held (Old H6) 9 (sq [0,2] (.f 1 (.f 3 (.f 4 (sq [5,6,7,8] (.f 9 .e)))))) rfl (by kernel_rfl) ?_
  (conv => whnf); refine tab_load hl hv (st6.blk 0 rfl) (st6.blk 0 rfl).lt ?_
  (conv => whnf); refine tab_load hl' hv' (st6.blk 1 rfl) (st6.blk 1 rfl).lt ?_
  (conv => whnf); refine VCall.mk (made_c v cells next final S H6 (ht.frame st6.old)) ?_
  rintro vA H7 ⟨ha7, hs7, hvA⟩
  have st7 := st6.call ha7
  refine ⟨ha7, ?_⟩
  (conv => whnf); refine VCall.mk (made_c v' cells' next' final' S H7 (hu.frame st7.old)) ?_
  rintro vB H8 ⟨ha8, hs8, hvB⟩
  have st8 := st7.call ha8
  have h68 := ha7.trans (ha8.mono fun k hk => old_lt ha7 hk)
  refine ⟨h68, ?_⟩
  have hba := both_of cells next final
  have hbb := both_of cells' next' final'
  (conv => whnf); refine VCall.mk (refmeets_c (S := Old H8) (fun k hk => hk) ((hvA.frame (ha8.mono fun k hk => hk.2)).mono fun k hk => old_lt ha8 hk.2) (hvB.mono fun k hk => hk.2) hba hbb hba.steps hbb.steps) ?_
  rintro _ H9 ⟨ha9, w', ok', rfl, hR'⟩
  have st9 := st8.call ha9
  have h69 := h68.trans (ha9.mono fun k hk => old_lt h68 hk)
  refine ⟨h69, ?_⟩
  generalize autoOf cells next final = a at *
  generalize autoOf cells' next' final' = b at *
  obtain ⟨rfl, rfl⟩ := hR.uniq hR'
  have h59 := ha6.trans (h69.mono fun k hk => old_lt ha6 hk)
  have hva9 := (hva5.frame h59).mono fun k hk => old_lt h59 hk
  have hvb9 := (hvb5.frame h59).mono fun k hk => old_lt h59 hk
  have hsw : (bA w).size ≤ maxLen := by rw [bA_size]; unfold maxLen; omega
  have hss : s.size ≤ maxLen := by unfold maxLen; omega
  have hacc := meet_acc hR
  have hlast := meet_last hR (s := s)
  have hA : ∀ {H' : Heap}, Agr (Old H9) H9 H' → ∀ t : ByteArray, t.size ≤ maxLen → Pure Try.prog 28 #[va, .string t] H' (.bool (acceptsM a t)) := fun h t ht => accepts_p (fun k hk => old_lt h hk) (hva9.frame h) ht
  have hB : ∀ {H' : Heap}, Agr (Old H9) H9 H' → ∀ t : ByteArray, t.size ≤ maxLen → Pure Try.prog 28 #[vb, .string t] H' (.bool (acceptsM b t)) := fun h t ht => accepts_p (fun k hk => old_lt h hk) (hvb9.frame h) ht
  have e1 : (!((bA w).toList == (bA w).toList)) = false := by simp
  have e2 : ∀ x : Bool, (!(x == x)) = false := fun x => by simp
  have ag0 : Agr (Old H9) H9 H9 := Agr.refl _ _
  (conv => whnf); rw [e1]
  (conv => whnf); refine bneq_b Try.underlying4 ?_
  rw [e2]
  (conv => whnf); refine pures (hA ag0 _ hsw) fun H10 ha10 => ?_
  have st10 := st9.call ha10
  cases hc1 : acceptsM a (bA w)
  case' false =>
    rw [hc1, Bool.false_and] at hacc
    subst hacc
    (conv => whnf); refine bneq_b Try.underlying4 ?_
  case' true =>
    rw [hc1, Bool.true_and] at hacc
    (conv => whnf); refine pures (hB ha10 _ hsw) fun H11 ha11 => ?_
    have ha10 := ha10.trans (ha11.mono fun k hk => old_lt ha10 hk)
    have st10 := st10.call ha11
    rw [hacc]
    (conv => whnf); refine bneq_b Try.underlying4 ?_
  all_goals
    rw [e2]
    (conv => whnf); refine pures (hA ha10 _ hss) fun H12 ha12 => ?_
    have st12 := st10.call ha12
    have ha12 := ha10.trans (ha12.mono fun k hk => old_lt ha10 hk)
    cases hs1 : acceptsM a s
    case' false =>
      (conv => whnf)
      exact ⟨rfl, st12.old⟩
    (conv => whnf); refine pures (hB ha12 _ hss) fun H13 ha13 => ?_
    have st13 := st12.call ha13
    cases hs2 : acceptsM b s
    case' false =>
      (conv => whnf)
      exact ⟨rfl, st13.old⟩
    obtain ⟨hok, hah⟩ := hlast hs1 hs2
    cases hok
    all_goals
      (conv => whnf); refine pures (ahead_p s (bA w) H13) fun H14 ha14 => ?_
      rw [hah]
      (conv => whnf)
      exact ⟨rfl, (st13.call ha14).old⟩
end Go.Proofs.Ytpnnedkpbmilkaa
