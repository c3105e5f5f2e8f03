/- The law NfaReaches: its walk. -/
import Derived.Test.YtlnmhfhdjnenoaaPSpk04
import Derived.Test.YtlnmhfhdjnenoaaPNfa7
import Derived.Test.YtlnmhfhdjnenoaaPNet04
set_option linter.unusedVariables false
set_option linter.unusedSimpArgs false
set_option maxRecDepth 100000
namespace Go.Proofs.Ytlnmhfhdjnenoaa
open Go.VC
set_option maxHeartbeats 8000000 in
theorem nfaReaches_p (v : Value) (a : NfM) (s : ByteArray) (S : Nat → Prop) (H : Heap) (hS : ∀ k, S k → k < H.size) (h : NfV S H v a) (hs : s.size ≤ 1048576) :
    Pure Try.prog 4 #[v, .string s] H (.bool true) := by
  have hr := h.1
  have hl := h.2.1
  have hsm : s.size ≤ maxLen := by unfold maxLen; omega
  refine FnOk.of_vc Try.func4 rfl (Try.call4 _) ?_
  (conv => whnf); refine nf_box h fun ea ec he h1 => ?_
  subst he
  intro p H1 hp hs1 hb1 ha1
  have st1 := (St.nil H).box hp hs1 hb1 ha1
  (conv => whnf); refine pures (speaks04_p H1) fun H2 ha2 => ?_
  have st2 := st1.call ha2
  (conv => whnf); refine nf_load hr hl (st2.blk 0 rfl) ag45 trivial (h1.frame (st2.old.mono hS)) fun v2 hv2 => ?_
  (conv => whnf); refine VCall.mk (machine04_c (fun k hk => st2.up (hS k hk)) hv2) ?_
  rintro _ H3 ⟨ha3, a3, c3, rfl, hw3⟩
  obtain ⟨a3', c3', e3, st3⟩ := st2.got ha3 hw3
  injection e3 with e31 e32 e33
  subst e31; subst e33
  (conv => whnf); refine valloc _ [.int .i64 0, .int .i64 0, .int .i64 0, .slice none 0 0] nfa_z rfl ?_
  intro q H4 hq hs4 hb4 ha4
  have st4 := st3.box hq hs4 hb4 ha4
  (conv => whnf); refine stNB (cs := nfL a (.slice a3 a.edges.length c3)) st4 2 rfl rfl (Nat.le_refl _) rfl fun H5 st5 => ?_
  rw [splice_all (show (nfL a (.slice a3 a.edges.length c3)).length = 4 from rfl)] at st5
  (conv => whnf); refine nf_load hr hl (st5.blk 0 rfl) ag45 trivial (h1.frame (st5.old.mono hS)) fun v5 hv5 => ?_
  (conv => whnf); refine VCall.mk (doc04_c (fun k hk => st5.up (hS k hk)) hv5) ?_
  rintro _ H6 ⟨ha6, a6, c6, rfl, hw6⟩
  obtain ⟨a6', c6', e6, st6⟩ := st5.got ha6 hw6
  injection e6 with e61 e62 e63
  subst e61; subst e63
  have hdv : NdV (Old H6) H6 (.agg (nfL a (.slice a6 a.edges.length c6)).toArray) a := ⟨hr, hl, a6, c6, rfl, st6.view 3 rfl⟩
  (conv => whnf); refine VCall.mk (reachD_c (fun k hk => hk) hdv hsm) ?_
  rintro _ H7 ⟨ha7, a7, c7, rfl, hw7⟩
  obtain ⟨a7', c7', e7, st7⟩ := st6.got ha7 hw7
  injection e7 with e71 e72 e73
  subst e71; subst e73
  obtain ⟨L, hL⟩ : ∃ L, L = rchL a (byN s) := ⟨_, rfl⟩
  have hLl : L.length ≤ 65536 := by rw [hL]; exact lstS_len _
  rw [← hL] at st7 ⊢
  have chk : ∀ {S' : Nat → Prop} {H' : Heap} {v' : Value}, (∀ k, S' k → k < H'.size) → NfV S' H' v' a → FnOk Try.prog 16 #[v', .string s] H' fun r H'' => OwnI H' H'' r L := fun hS' h' => by rw [hL]; exact reach_n hS' h' hsm
  have ints : ∀ {H' : Heap} {x1 x2 : Option Addr} {y1 y2 : Nat}, SlD tIk (Old H') H' x1 y1 L → SlD tIk (Old H') H' x2 y2 L → Pure Try.prog 17 #[.slice x1 L.length y1, .slice x2 L.length y2] H' (.bool true) := fun h1 h2 =>
    ints04_p (fun k hk => hk) (fun k hk => hk) h1 h2
  have hq7 := st7.blk 2 rfl
  have hql := hq7.lt
  (conv => whnf); refine VDraw.heldZ (Old H7) [] (sq [0,1,3,4] (.f 2 (.f 5 (sq [6] (.f 7 .e))))) rfl (by kernel_rfl) ?_
  (conv => whnf); refine nf_load hr hl hq7 ag25 hql (st7.view 1 rfl) fun v8 hv8 => ?_
  (conv => whnf); refine nf_load hr hl hq7 ag25 hql (st7.view 1 rfl) fun v9 hv9 => ?_
  (conv => whnf); refine VCall.mk (chk (fun k hk => hk) hv8) ?_
  rintro _ H8 ⟨ha8, a8, c8, rfl, hw8⟩
  obtain ⟨a8', c8', e8, st8⟩ := st7.got ha8 hw8
  injection e8 with e81 e82 e83
  subst e81; subst e83
  refine ⟨ha8, ?_⟩
  (conv => whnf); refine VCall.mk (chk (fun k hk => old_lt ha8 hk) (hv9.frame ha8)) ?_
  rintro _ H9 ⟨ha9, a9, c9, rfl, hw9⟩
  obtain ⟨a9', c9', e9, st9⟩ := st8.got ha9 hw9
  injection e9 with e91 e92 e93
  subst e91; subst e93
  have g9 : Agr (Old H7) H7 H9 := ha8.trans (ha9.mono fun k hk => old_lt ha8 hk)
  refine ⟨g9, ?_⟩
  (conv => whnf)
  refine ⟨g9, ?_⟩
  (conv => whnf); refine VDraw.heldG (Old H9) [] (sq [0,1] (.f 2 (sq [3,4,5,6] (.f 7 (sq [8,9,10,11,12,14,16] (.f 13 (.f 15 (.f 17 (sq [18,19] .e))))))))) rfl (by kernel_rfl) ?_
  (conv => whnf); refine pures (ints (st9.view 5 rfl) (st9.view 4 rfl)) fun H10 ha10 => ?_
  have st10 := st9.call ha10
  refine ⟨ha10, ?_⟩
  (conv => whnf); refine pures (ints (st10.view 6 rfl) (st10.view 4 rfl)) fun H11 ha11 => ?_
  have st11 := st10.call ha11
  have g11 : Agr (Old H9) H9 H11 := ha10.trans (ha11.mono fun k hk => old_lt ha10 hk)
  refine ⟨g11, ?_⟩
  have hq9 := st9.blk 2 rfl
  have hp9 := st9.blk 0 rfl
  (conv => whnf); refine nf_load hr hl (st11.blk 2 rfl) ag25 hq9.lt (st11.view 1 rfl) fun v11 hv11 => ?_
  (conv => whnf); refine nf_load hr hl (st11.blk 0 rfl) ag45 hp9.lt (h1.frame (st11.old.mono hS)) fun w11 hw11 => ?_
  (conv => whnf); refine pures (accepts_n (fun k hk => hk) hv11 hsm) fun H12 ha12 => ?_
  have st12 := st11.call ha12
  have g12 : Agr (Old H9) H9 H12 := g11.trans (ha12.mono fun k hk => old_lt g11 hk)
  refine ⟨g12, ?_⟩
  (conv => whnf); refine VCall.mk (doc04_c (fun k hk => st12.up (hS k hk)) (hw11.frame (ha12.mono fun k hk => st11.up (hS k hk)))) ?_
  rintro _ H13 ⟨ha13, a13, c13, rfl, hw13⟩
  obtain ⟨a13', c13', e13, st13⟩ := st12.got ha13 hw13
  injection e13 with e131 e132 e133
  subst e131; subst e133
  have g13 : Agr (Old H9) H9 H13 := g12.trans (ha13.mono fun k hk => old_lt g12 hk)
  refine ⟨g13, ?_⟩
  have hd13 : NdV (Old H13) H13 (.agg (nfL a (.slice a13 a.edges.length c13)).toArray) a := ⟨hr, hl, a13, c13, rfl, st13.view 7 rfl⟩
  (conv => whnf); refine pures (acceptsD_p (fun k hk => hk) hd13 hsm) fun H14 ha14 => ?_
  have st14 := st13.call ha14
  have g14 : Agr (Old H9) H9 H14 := g13.trans (ha14.mono fun k hk => old_lt g13 hk)
  refine ⟨g14, ?_⟩
  (conv => whnf); refine bneq_b Try.underlying4 ?_
  rw [show (!(accN a (byN s) == accN a (byN s))) = false by simp]
  (conv => whnf)
  refine VLoop.mk [9] (fun i : Nat => [.int .i64 (i : Int)]) (fun i H15 => i ≤ L.length ∧ ∃ xs : List Int, xs.length = L.length ∧ St H H15 [pB 45 p (nfL a (.slice ea a.edges.length ec)), pS tEd 81 a3 a.edges.length c3 a.edges, pB 25 q (nfL a (.slice a3 a.edges.length c3)), pS tIk 3 a7 L.length c7 L, pS tIk 3 a8 L.length c8 xs, pS tIk 3 a9 L.length c9 L]) (fun i _ => L.length - i) ?_ ?_
  · (conv => whnf)
    exact ⟨0, rfl, Nat.zero_le _, L, rfl, st14.pick [0, 1, 2, 4, 5, 6] (by decide)⟩
  · rintro i H15 junk ⟨hi, xs, hxl, st15⟩
    (conv => whnf); refine VIte.mk (fun hz => ?_) (fun hz => ?_) <;> simp only [decide_eq_true_eq, decide_eq_false_iff_not] at hz
    · have hik : inK .i64 ((-7 : Int) - (i : Int)) := by
        have m1 : IntKind.i64.min = -9223372036854775808 := by decide
        have m2 : IntKind.i64.max = 9223372036854775807 := by decide
        exact ⟨by omega, by omega⟩
      obtain ⟨b, rfl⟩ := st15.adr 4 rfl (by omega)
      (conv => whnf); rw [w64 (x := (-7 : Int) - (i : Int)) (by omega) (by omega)]
      (conv => whnf); refine ix sl47 (by omega) (by omega) ?_
      (conv => whnf); refine st1O (x := (-7 : Int) - (i : Int)) st15 4 ct3 rfl rfl (by rw [Nat.zero_add, Nat.mul_one, Int.toNat_natCast]) (by omega) rfl (fun _ _ => ⟨rfl, hik⟩) fun H16 st16 => ?_
      (conv => whnf); rw [w64 (x := (i : Int) + 1) (by omega) (by omega)]
      exact ⟨rfl, i + 1, by simp, ⟨by omega, _, by simp [hxl], st16⟩, by omega⟩
    · (conv => whnf); refine nf_load hr hl (st15.blk 2 rfl) ag25 trivial (st15.view 1 rfl) fun v16 hv16 => ?_
      (conv => whnf); refine VCall.mk (chk (fun k hk => hk) hv16) ?_
      rintro _ H16 ⟨ha16, a16, c16, rfl, hw16⟩
      obtain ⟨a16', c16', e16, st16⟩ := st15.got ha16 hw16
      injection e16 with e161 e162 e163
      subst e161; subst e163
      (conv => whnf); refine VDraw.heldG (Old H16) [] (sq [0,1] (.f 2 (sq [3,4,5] (.f 6 (sq [7,8,9,10] (.f 11 (.f 12 (sq [13] (.f 14 .e))))))))) rfl (by kernel_rfl) ?_
      (conv => whnf); refine pures (ints (st16.view 5 rfl) (st16.view 3 rfl)) fun H17 ha17 => ?_
      have st17 := st16.call ha17
      refine ⟨ha17, ?_⟩
      (conv => whnf); refine pures (ints (st17.view 6 rfl) (st17.view 3 rfl)) fun H18 ha18 => ?_
      have st18 := st17.call ha18
      have g18 : Agr (Old H16) H16 H18 := ha17.trans (ha18.mono fun k hk => old_lt ha17 hk)
      refine ⟨g18, ?_⟩
      have hq16 := st16.blk 2 rfl
      have hp16 := st16.blk 0 rfl
      (conv => whnf); refine nf_load hr hl (st18.blk 2 rfl) ag25 hq16.lt (st18.view 1 rfl) fun v18 hv18 => ?_
      (conv => whnf); refine nf_load hr hl (st18.blk 0 rfl) ag45 hp16.lt (h1.frame (st18.old.mono hS)) fun w18 hw18 => ?_
      (conv => whnf); refine VCall.mk (doc04_c (fun k hk => st18.up (hS k hk)) hw18) ?_
      rintro _ H19 ⟨ha19, a19, c19, rfl, hw19⟩
      obtain ⟨a19', c19', e19, st19⟩ := st18.got ha19 hw19
      injection e19 with e191 e192 e193
      subst e191; subst e193
      have g19 : Agr (Old H16) H16 H19 := g18.trans (ha19.mono fun k hk => old_lt g18 hk)
      refine ⟨g19, ?_⟩
      have hd19 : NdV (Old H19) H19 (.agg (nfL a (.slice a19 a.edges.length c19)).toArray) a := ⟨hr, hl, a19, c19, rfl, st19.view 7 rfl⟩
      (conv => whnf); refine pures (same04_p (fun k hk => old_lt ha19 hk) (fun k hk => hk) (hv18.frame ha19) hd19) fun H20 ha20 => ?_
      have st20 := st19.call ha20
      have g20 : Agr (Old H16) H16 H20 := g19.trans (ha20.mono fun k hk => old_lt g19 hk)
      refine ⟨g20, ?_⟩
      (conv => whnf)
      refine ⟨g20, ?_⟩
      (conv => whnf)
      exact ⟨rfl, st20.old⟩
end Go.Proofs.Ytlnmhfhdjnenoaa
