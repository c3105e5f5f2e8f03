/- The law DfaSets returns true for every net and every two strings, where what it reads is of bulk at most 1048576, and changes nothing: no other condition. -/
import Derived.Test.YthomdogheamfpaaDoorKS8
import Derived.Test.YthomdogheamfpaaDoorCards
import Derived.Test.YthomdogheamfpaaDoorTie
import Derived.Deep.DeepHandedRow
/- The law DfaSets: its walk. -/
set_option linter.unusedVariables false
set_option linter.unusedSimpArgs false
set_option maxRecDepth 100000
namespace Go.Proofs.YthomdogheamfpaaDoor
open Go.VC
attribute [local irreducible] mRun gRun atRun
theorem rch_step {a : NfM} {w : List Nat} {i b : Nat} (h : w[i]? = some b) : stepA a (rchL a (w.take i)) b = rchL a (w.take (i + 1)) := by
  have e : (fun q => q ∈ rchL a (w.take i)) = rchS a (w.take i) := funext fun q => propext (rchL_mem a _ q)
  unfold stepA
  rw [e, ← rchS_snoc, ← take_succ_snoc h]
  rfl
theorem same_at {K : Type} {F : List K} (hn : F.Nodup) {i j : Nat} {x y : K} (hi : F[i]? = some x) (hj : F[j]? = some y) : i = j ↔ x = y := by
  constructor
  · rintro rfl
    rw [hi] at hj
    exact Option.some.inj hj
  · rintro rfl
    obtain ⟨h1, e1⟩ := List.getElem?_eq_some_iff.1 hi
    obtain ⟨h2, e2⟩ := List.getElem?_eq_some_iff.1 hj
    rcases Nat.lt_trichotomy i j with h | h | h
    · exact absurd (e1.trans e2.symm) (List.pairwise_iff_getElem.1 hn i j h1 h2 h)
    · exact h
    · exact absurd (e2.trans e1.symm) (List.pairwise_iff_getElem.1 hn j i h2 h1 h)
theorem fin_acc (a : NfM) (w : List Nat) : decide (a.fin ∈ rchL a w) = accN a w := by
  rw [Bool.eq_iff_iff, decide_eq_true_eq, accN_iff, rchL_mem]
set_option maxHeartbeats 32000000 in
theorem dfaSets_p (v : Value) (a : NfM) (s t : ByteArray) (S : Nat → Prop) (H : Heap) (hS : ∀ k, S k → k < H.size) (h : NfV S H v a) (hs : s.size ≤ 1048576) (ht : t.size ≤ 1048576) (hpow : PowH Tryd.prog H) :
    Pure Tryd.prog 12 #[v, .string s, .string t] H (.bool true) := by
  have hsm : s.size ≤ maxLen := by unfold maxLen; omega
  have htm : t.size ≤ maxLen := by unfold maxLen; omega
  have hr := h.1
  have hl := h.2.1
  refine FnOk.of_vc Tryd.func12 rfl (Tryd.call12 _) ?_
  (conv => whnf); refine nf_box h fun ea ec he h1 => ?_
  subst he
  intro p H1 hp hs1 hb1 ha1
  have st1 := (St.nil H).box hp hs1 hb1 ha1
  (conv => whnf); refine pures (speaks_p H1) fun H2 ha2 => ?_
  have st2 := st1.call ha2
  (conv => whnf); refine nf_load hr hl (st2.blk 0 rfl) ag55 trivial (h1.frame (st2.old.mono hS)) fun v2 hv2 => ?_
  (conv => whnf); refine VCall.mk (machine05_c (fun k hk => st2.up (hS k hk)) hv2) ?_
  rintro _ H3 ⟨ha3, a3, c3, rfl, hw3⟩
  obtain ⟨a3', c3', e3, st3⟩ := st2.got ha3 hw3
  injection e3 with e31 e32 e33
  subst e31; subst e33
  (conv => whnf); refine valloc _ [.int .i64 0, .int .i64 0, .int .i64 0, .slice none 0 0] nfa_z rfl ?_
  intro q H4 hq hs4 hb4 ha4
  have st4 := st3.box hq hs4 hb4 ha4
  (conv => whnf); refine stNB (cs := nfL a (.slice a3 a.edges.length c3)) st4 2 rfl rfl (Nat.le_refl _) rfl fun H5 st5 => ?_
  rw [splice_all (show (nfL a (.slice a3 a.edges.length c3)).length = 4 from rfl)] at st5
  (conv => whnf); refine nf_load hr hl (st5.blk 2 rfl) ag58 trivial (st5.view 1 rfl) fun v6 hv6 => ?_
  (conv => whnf); refine VCall.mk (detP_c (b := 4096) (S := Old H5) (fun k hk => hk) hv6 (hpow.agr st5.old)) ?_
  rintro r6 H6 ⟨ha6, hr6⟩
  have st6 := st5.call ha6
  cases hd : detB a 4096 with
  | error e =>
    rw [hd] at hr6
    simp only at hr6
    subst hr6
    have hee := detB_err hd
    have d1 : (e != 0) = true := by simpa using hee.1
    (conv => whnf); rw [d1]
    (conv => whnf); refine nf_load hr hl (st6.blk 0 rfl) ag55 trivial (h1.frame (st6.old.mono hS)) fun v7 hv7 => ?_
    (conv => whnf); refine VCall.mk (doc05_c (fun k hk => st6.up (hS k hk)) hv7) ?_
    rintro _ H7 ⟨ha7, a7, c7, rfl, hw7⟩
    obtain ⟨a7', c7', e7, st7⟩ := st6.got ha7 hw7
    injection e7 with e71 e72 e73
    subst e71; subst e73
    (conv => whnf); refine VCall.mk (detQ_c (b := 4096) (S := Old H7) (fun k hk => hk) ⟨hr, hl, a7, c7, rfl, st7.view 3 rfl⟩) ?_
    rintro r8 H8 ⟨ha8, l, hl8, ho8, hr8⟩
    rw [hd] at hr8
    simp only at hr8
    subst hr8
    have st8 := st7.call ha8
    (conv => whnf); refine valloc _ zD rfl (by kernel_rfl) ?_
    intro p9 H9 hp9 hs9 hb9 ha9
    have st9 := st8.box hp9 hs9 hb9 ha9
    (conv => whnf); refine stNB (cs := l) st9 4 (by rw [hl8]; rfl) rfl (by rw [hl8]; decide) ho8 fun H10 st10 => ?_
    (conv => whnf); refine peqN ptrA ?_
    have d2 : (e == e) = true := by simp
    (conv => whnf); rw [d2]
    (conv => whnf)
    exact ⟨rfl, st10.old⟩
  | ok F =>
    rw [hd] at hr6
    obtain ⟨vA, rfl, oA, hvA, hLA, hnA⟩ := hr6
    obtain ⟨m, hm0, hm1, hm2, hdet⟩ := detB_ok hd
    obtain rfl : m = 4096 := by omega
    obtain ⟨hF1, hF2, hFn, hF0⟩ := detN_len hm1 hdet
    have sA : ∀ {H' : Heap}, Agr (Old H6) H6 H' → AutoV (Old H') H' vA (some oA) := fun h => (hvA.frame (h.mono fun k hk => hk.2)).mono fun k hk => old_lt h hk.2
    have tr : ∀ {G H' : Heap}, Agr (Old H6) H6 G → Agr (Old G) G H' → Agr (Old H6) H6 H' := fun h k => h.trans (k.mono fun j hj => old_lt h hj)
    (conv => whnf)
    refine VLoop.mk [12, 14] (fun x : Nat × Nat => match x with | (k, i) => [.int .i64 (k : Int), .int .i64 (i : Int)]) (fun x H' => match x with | (k, i) => i ≤ s.size ∧ F[k]? = some (rchL a ((byN s).take i)) ∧ (k : Int) = runM (some oA) s i ∧ Agr (Old H6) H6 H') (fun x _ => s.size - x.2) ?_ ?_
    · (conv => whnf)
      exact ⟨(0, 0), rfl, Nat.zero_le _, hF0, rfl, Agr.refl _ _⟩
    · rintro ⟨x1, i1⟩ H7 junkH7 ⟨hi1, hFx1, hrx1, hax1⟩
      (conv => whnf); refine VIte.mk (fun hzi1 => ?_) (fun hzi1 => ?_) <;> simp only [decide_eq_true_eq, decide_eq_false_iff_not] at hzi1
      · obtain ⟨b, hb⟩ := getB (s := s) (k := i1) (by omega)
        have hb8 : b.toNat < 256 := UInt8.toNat_lt b
        have hbn := byN_get hb
        (conv => whnf); refine vidxs Tryd.underlying9 rfl hb ?_
        (conv => whnf); refine pures (step_p (fun k hk => hk) (sA hax1) hb8) fun H8 ha8 => ?_
        obtain ⟨t, ht, hFt⟩ := hLA.st x1 b.toNat _ hFx1 hb8
        rw [rch_step hbn] at hFt
        have hrt := runM_succ (o := some oA) hb
        rw [← hrx1, ht] at hrt
        rw [ht]
        (conv => whnf); rw [w64 (x := (i1 : Int) + 1) (by omega) (by omega)]
        exact ⟨rfl, (t, i1 + 1), by simp, ⟨by omega, hFt, hrt.symm, tr hax1 ha8⟩, by simp only; omega⟩
      · obtain rfl : i1 = s.size := by omega
        rw [← byN_len, List.take_length] at hFx1
        (conv => whnf)
        refine VLoop.mk [13, 15] (fun x : Nat × Nat => match x with | (k, i) => [.int .i64 (k : Int), .int .i64 (i : Int)]) (fun x H' => match x with | (k, i) => i ≤ t.size ∧ F[k]? = some (rchL a ((byN t).take i)) ∧ (k : Int) = runM (some oA) t i ∧ Agr (Old H6) H6 H') (fun x _ => t.size - x.2) ?_ ?_
        · (conv => whnf)
          exact ⟨(0, 0), rfl, Nat.zero_le _, hF0, rfl, hax1⟩
        · rintro ⟨x2, i2⟩ H9 junkH9 ⟨hi2, hFx2, hrx2, hax2⟩
          (conv => whnf); refine VIte.mk (fun hzi2 => ?_) (fun hzi2 => ?_) <;> simp only [decide_eq_true_eq, decide_eq_false_iff_not] at hzi2
          · obtain ⟨b, hb⟩ := getB (s := t) (k := i2) (by omega)
            have hb8 : b.toNat < 256 := UInt8.toNat_lt b
            have hbn := byN_get hb
            (conv => whnf); refine vidxs Tryd.underlying9 rfl hb ?_
            (conv => whnf); refine pures (step_p (fun k hk => hk) (sA hax2) hb8) fun H8 ha8 => ?_
            obtain ⟨t, ht, hFt⟩ := hLA.st x2 b.toNat _ hFx2 hb8
            rw [rch_step hbn] at hFt
            have hrt := runM_succ (o := some oA) hb
            rw [← hrx2, ht] at hrt
            rw [ht]
            (conv => whnf); rw [w64 (x := (i2 : Int) + 1) (by omega) (by omega)]
            exact ⟨rfl, (t, i2 + 1), by simp, ⟨by omega, hFt, hrt.symm, tr hax2 ha8⟩, by simp only; omega⟩
          · obtain rfl : i2 = t.size := by omega
            rw [← byN_len, List.take_length] at hFx2
            generalize hX : rchL a (byN s) = X at *
            generalize hY : rchL a (byN t) = Y at *
            have hXl : X.length ≤ 65536 := by rw [← hX]; exact lstS_len _
            have hYl : Y.length ≤ 65536 := by rw [← hY]; exact lstS_len _
            have hpq := same_at hFn hFx1 hFx2
            have hf1 : finM (some oA) (x1 : Int) = accN a (byN s) := by rw [hLA.fi x1 X hFx1, ← hX, fin_acc]
            have hf2 : finM (some oA) (x2 : Int) = accN a (byN t) := by rw [hLA.fi x2 Y hFx2, ← hY, fin_acc]
            have hac : acceptsM (some oA) s = finM (some oA) (x1 : Int) := by unfold acceptsM; rw [hrx1]
            have st9 := st6.call hax2
            have hq9 := st9.blk 2 rfl
            have hql := hq9.lt
            (conv => whnf); refine VDraw.heldZ (Old H9) [] (sq [0,1,3,4] (.f 2 (.f 5 (.f 6 (.f 7 .e))))) rfl (by kernel_rfl) ?_
            (conv => whnf); refine nf_load hr hl hq9 ag58 hql (st9.view 1 rfl) fun v8 hv8 => ?_
            (conv => whnf); refine nf_load hr hl hq9 ag58 hql (st9.view 1 rfl) fun v9 hv9 => ?_
            (conv => whnf); refine VCall.mk (reach_n (fun k hk => hk) hv8 hsm) ?_
            rintro _ H10 ⟨ha10, a10, c10, rfl, hw10⟩
            rw [hX] at hw10
            obtain ⟨a10', c10', e10, st10⟩ := st9.got ha10 hw10
            injection e10 with e101 e102 e103
            subst e101; subst e103
            refine ⟨ha10, ?_⟩
            (conv => whnf); refine VCall.mk (reach_n (fun k hk => old_lt ha10 hk) (hv9.frame ha10) htm) ?_
            rintro _ H11 ⟨ha11, a11, c11, rfl, hw11⟩
            rw [hY] at hw11
            obtain ⟨a11', c11', e11, st11⟩ := st10.got ha11 hw11
            injection e11 with e111 e112 e113
            subst e111; subst e113
            have g11 : Agr (Old H9) H9 H11 := ha10.trans (ha11.mono fun k hk => old_lt ha10 hk)
            refine ⟨g11, ?_⟩
            (conv => whnf)
            refine ⟨g11, ?_⟩
            (conv => whnf)
            refine ⟨g11, ?_⟩
            rw [hX, hY]
            have g611 : Agr (Old H6) H6 H11 := tr hax2 g11
            (conv => whnf)
            refine VLoop.mk [18, 19] (fun x : Bool × Nat => match x with | (al, i) => [.bool al, .int .i64 (i : Int)]) (fun x H' => match x with | (al, i) => i ≤ X.length ∧ (al = true → X.length = Y.length ∧ X.take i = Y.take i) ∧ (al = false → X ≠ Y) ∧ Agr (Old H11) H11 H') (fun x _ => X.length - x.2) ?_ ?_
            · (conv => whnf)
              refine ⟨((X.length : Int) == (Y.length : Int), 0), rfl, Nat.zero_le _, fun h => ⟨?_, rfl⟩, fun h e => ?_, Agr.refl _ _⟩
              · have := eq_of_beq h; omega
              · rw [e] at h; simp at h
            · rintro ⟨al, i⟩ H12 junk12 ⟨hi, hal1, hal0, ha12⟩
              have fin : ∀ b : Bool, b = decide (X = Y) → ∀ G, Agr (Old H11) H11 G → True := fun _ _ _ _ => trivial
              have st12 := st11.call ha12
              by_cases hil : i < X.length
              · have d1 : decide ((i : Int) < (X.length : Int)) = true := decide_eq_true (by omega)
                (conv => whnf); rw [d1]
                cases al with
                | true =>
                  obtain ⟨hlen, htk⟩ := hal1 rfl
                  obtain ⟨x, hx⟩ := get_some (l := X) (k := i) hil
                  obtain ⟨y, hy⟩ := get_some (l := Y) (k := i) (by omega)
                  (conv => whnf); refine VDraw.lex rfl (by kernel_rfl) ?_
                  (conv => whnf); refine ixr (i := i) sl33 (st12.view 3 rfl) hx rfl ?_
                  rintro b5 o5 cs5 hS5 hc5 ⟨rfl, -⟩
                  (conv => whnf); refine ld1 ct3 hc5.one trivial ?_
                  (conv => whnf); refine ixr (i := i) sl33 (st12.view 4 rfl) hy rfl ?_
                  rintro b6 o6 cs6 hS6 hc6 ⟨rfl, -⟩
                  (conv => whnf); refine ld1 ct3 hc6.one trivial ?_
                  (conv => whnf); rw [w64 (x := (i : Int) + 1) (by omega) (by omega)]
                  refine ⟨rfl, (x == y, i + 1), by simp, ⟨by omega, fun h => ⟨hlen, ?_⟩, fun h e => ?_, ha12⟩, by simp only; omega⟩
                  · have := eq_of_beq h
                    subst this
                    rw [take_succ_snoc hx, take_succ_snoc hy, htk]
                  · subst e
                    rw [hx] at hy
                    injection hy with hy
                    subst hy
                    simp at h
                | false =>
                  have hne := hal0 rfl
                  have heq : decide (X = Y) = false := decide_eq_false hne
                  have hpq2 : ((x1 : Int) == (x2 : Int)) = false := by
                    rw [← heq, Bool.eq_iff_iff, beq_iff_eq, decide_eq_true_eq, ← hpq]
                    omega
                  have g612 : Agr (Old H6) H6 H12 := tr g611 ha12
                  have hq12 := st12.blk 2 rfl
                  have hql12 := hq12.lt
                  have up : ∀ {G : Heap}, Agr (Old H12) H12 G → Agr (Old H6) H6 G := fun h => tr g612 h
                  have bb : ∀ x : Bool, (x == x) = true := fun x => by simp
                  (conv => whnf); refine VDraw.heldG (Old H12) [] (sq [0,1,3,4] (.f 2 (.f 5 (sq [6,7,8,9,11,12] (.f 10 (.f 13 (sq [14,15,16,17,18,19,20,21,22,23,24,25,27,28] (.f 26 (.f 29 (sq [30,31] (.f 32 .e))))))))))) rfl (by kernel_rfl) ?_
                  (conv => whnf); refine nf_load hr hl hq12 ag58 hql12 (st12.view 1 rfl) fun v13 hv13 => ?_
                  (conv => whnf); refine pures (final_p (sA g612)) fun H13 ha13 => ?_
                  refine ⟨ha13, ?_⟩
                  (conv => whnf); refine pures (accepts_n (fun k hk => old_lt ha13 hk) (hv13.frame ha13) hsm) fun H14 ha14 => ?_
                  have g14 : Agr (Old H12) H12 H14 := ha13.trans (ha14.mono fun k hk => old_lt ha13 hk)
                  refine ⟨g14, ?_⟩
                  rw [hf1]
                  (conv => whnf); refine beq_b Tryd.underlying4 ?_
                  rw [bb]
                  (conv => whnf); refine nf_load hr hl ((st12.call g14).blk 2 rfl) ag58 hql12 ((st12.call g14).view 1 rfl) fun v15 hv15 => ?_
                  (conv => whnf); refine pures (final_p (sA (up g14))) fun H15 ha15 => ?_
                  have g15 : Agr (Old H12) H12 H15 := g14.trans (ha15.mono fun k hk => old_lt g14 hk)
                  refine ⟨g15, ?_⟩
                  (conv => whnf); refine pures (accepts_n (fun k hk => old_lt ha15 hk) (hv15.frame ha15) htm) fun H16 ha16 => ?_
                  have g16 : Agr (Old H12) H12 H16 := g15.trans (ha16.mono fun k hk => old_lt g15 hk)
                  refine ⟨g16, ?_⟩
                  rw [hf2]
                  (conv => whnf); refine beq_b Tryd.underlying4 ?_
                  rw [bb]
                  (conv => whnf); rw [hpq2]
                  (conv => whnf); refine beq_b Tryd.underlying4 ?_
                  rw [bb]
                  (conv => whnf); refine pures (accepts_p (fun k hk => hk) (sA (up g16)) hsm) fun H17 ha17 => ?_
                  have g17 : Agr (Old H12) H12 H17 := g16.trans (ha17.mono fun k hk => old_lt g16 hk)
                  refine ⟨g17, ?_⟩
                  (conv => whnf); refine pures (final_p (sA (up g17))) fun H18 ha18 => ?_
                  have g18 : Agr (Old H12) H12 H18 := g17.trans (ha18.mono fun k hk => old_lt g17 hk)
                  refine ⟨g18, ?_⟩
                  rw [hac]
                  (conv => whnf); refine beq_b Tryd.underlying4 ?_
                  rw [bb]
                  (conv => whnf)
                  refine ⟨g18, ?_⟩
                  (conv => whnf)
                  exact ⟨rfl, st12.old.trans (g18.mono fun k hk => st12.up hk)⟩
              · have d1 : decide ((i : Int) < (X.length : Int)) = false := decide_eq_false (by omega)
                obtain rfl : i = X.length := by omega
                (conv => whnf); rw [d1]
                have heq : decide (X = Y) = al := by
                  cases al with
                  | true =>
                    obtain ⟨hlen, htk⟩ := hal1 rfl
                    rw [List.take_length, hlen, List.take_length] at htk
                    exact decide_eq_true htk
                  | false => exact decide_eq_false (hal0 rfl)
                have hpq2 : ((x1 : Int) == (x2 : Int)) = al := by
                  rw [← heq, Bool.eq_iff_iff, beq_iff_eq, decide_eq_true_eq, ← hpq]
                  omega
                have g612 : Agr (Old H6) H6 H12 := tr g611 ha12
                have hq12 := st12.blk 2 rfl
                have hql12 := hq12.lt
                have up : ∀ {G : Heap}, Agr (Old H12) H12 G → Agr (Old H6) H6 G := fun h => tr g612 h
                have bb : ∀ x : Bool, (x == x) = true := fun x => by simp
                (conv => whnf); refine VDraw.heldG (Old H12) [] (sq [0,1,3,4] (.f 2 (.f 5 (sq [6,7,8,9,11,12] (.f 10 (.f 13 (sq [14,15,16,17,18,19,20,21,22,23,24,25,27,28] (.f 26 (.f 29 (sq [30,31] (.f 32 .e))))))))))) rfl (by kernel_rfl) ?_
                (conv => whnf); refine nf_load hr hl hq12 ag58 hql12 (st12.view 1 rfl) fun v13 hv13 => ?_
                (conv => whnf); refine pures (final_p (sA g612)) fun H13 ha13 => ?_
                refine ⟨ha13, ?_⟩
                (conv => whnf); refine pures (accepts_n (fun k hk => old_lt ha13 hk) (hv13.frame ha13) hsm) fun H14 ha14 => ?_
                have g14 : Agr (Old H12) H12 H14 := ha13.trans (ha14.mono fun k hk => old_lt ha13 hk)
                refine ⟨g14, ?_⟩
                rw [hf1]
                (conv => whnf); refine beq_b Tryd.underlying4 ?_
                rw [bb]
                (conv => whnf); refine nf_load hr hl ((st12.call g14).blk 2 rfl) ag58 hql12 ((st12.call g14).view 1 rfl) fun v15 hv15 => ?_
                (conv => whnf); refine pures (final_p (sA (up g14))) fun H15 ha15 => ?_
                have g15 : Agr (Old H12) H12 H15 := g14.trans (ha15.mono fun k hk => old_lt g14 hk)
                refine ⟨g15, ?_⟩
                (conv => whnf); refine pures (accepts_n (fun k hk => old_lt ha15 hk) (hv15.frame ha15) htm) fun H16 ha16 => ?_
                have g16 : Agr (Old H12) H12 H16 := g15.trans (ha16.mono fun k hk => old_lt g15 hk)
                refine ⟨g16, ?_⟩
                rw [hf2]
                (conv => whnf); refine beq_b Tryd.underlying4 ?_
                rw [bb]
                (conv => whnf); rw [hpq2]
                (conv => whnf); refine beq_b Tryd.underlying4 ?_
                rw [bb]
                (conv => whnf); refine pures (accepts_p (fun k hk => hk) (sA (up g16)) hsm) fun H17 ha17 => ?_
                have g17 : Agr (Old H12) H12 H17 := g16.trans (ha17.mono fun k hk => old_lt g16 hk)
                refine ⟨g17, ?_⟩
                (conv => whnf); refine pures (final_p (sA (up g17))) fun H18 ha18 => ?_
                have g18 : Agr (Old H12) H12 H18 := g17.trans (ha18.mono fun k hk => old_lt g17 hk)
                refine ⟨g18, ?_⟩
                rw [hac]
                (conv => whnf); refine beq_b Tryd.underlying4 ?_
                rw [bb]
                (conv => whnf)
                refine ⟨g18, ?_⟩
                (conv => whnf)
                exact ⟨rfl, st12.old.trans (g18.mono fun k hk => st12.up hk)⟩
end Go.Proofs.YthomdogheamfpaaDoor
set_option linter.unusedVariables false
set_option linter.unusedSimpArgs false
namespace Go.Proofs.YthomdogheamfpaaDoor
open Go.ChangeShapes Go.WideShapes Go.ChangeAt Go.RowKit
open Go.ChangeMaps (open_string)
open Go.VC

theorem dfaSets_met (os : Os) : laidMet Tryd.prog Rows.dfaSetsUptoRow.laid ((laidW os).forCall (fun _ _ => 0) ⟨#[], #[.agg #[.int .i64 0, .int .i64 0, .int .i64 0, .slice none 0 0], .string ⟨#[]⟩, .string ⟨#[]⟩], []⟩).memory :=
  laidMet_of_run' 100 (by kernel_rfl) (by kernel_rfl)
theorem dfaSets_reads (os : Os) {H : Type} (enc : TypeId × Value → H) : ∃ places, DataW.whole enc Tryd.prog ((laidW os).forCall (fun _ _ => 0) ⟨#[], #[.agg #[.int .i64 0, .int .i64 0, .int .i64 0, .slice none 0 0], .string ⟨#[]⟩, .string ⟨#[]⟩], []⟩).memory Tryd.f12.params.toList (Rows.OpenSpec.upto Rows.dfaSetsSpec).bare.plain.vars false (#[.agg #[.int .i64 0, .int .i64 0, .int .i64 0, .slice none 0 0], .string ⟨#[]⟩, .string ⟨#[]⟩] : Array Value).toList 8 = some ([.agg [.lit (.int .i64 0), .lit (.int .i64 0), .lit (.int .i64 0), .nil], .lit (.string []), .lit (.string [])], [], places) :=
  ⟨[], by kernel_rfl⟩
set_option maxRecDepth 100000 in
theorem dfaSets_lifted (os : Os) (started : os.Started) (H : Type) (enc : TypeId × Value → H) (F : Stop.Interp) :
    ReturnsInHanded {} Tryd.checked os 12 .any ((Rows.OpenSpec.upto Rows.dfaSetsSpec).preRow enc Tryd.prog Tryd.f12 Rows.dfaSetsUptoRow.domain false Rows.dfaSetsUptoRow.laid) (((Rows.OpenSpec.upto Rows.dfaSetsSpec).at F).post enc Tryd.prog Tryd.f12 false true false false) := by
  obtain ⟨places, hx⟩ := dfaSets_reads os enc
  refine returnsInHanded_of_row (C := Tryd.checked) (s := Rows.OpenSpec.upto Rows.dfaSetsSpec) own_ started (by kernel_rfl) Tryd.func12
    (witness_row_at (enc := enc) (C := Tryd.checked) false (laidW os) #[.agg #[.int .i64 0, .int .i64 0, .int .i64 0, .slice none 0 0], .string ⟨#[]⟩, .string ⟨#[]⟩] rfl (by kernel_rfl) (by kernel_rfl) (by kernel_rfl)
      (OpenSpec.preRow_of_cond 8 hx (by kernel_rfl) (fun k hk => by cases hk; kernel_rfl) (by kernel_rfl) (dfaSets_met os))) ?_
  intro W base args ds gs before hval0 hW _ hcond _ hL _ _
  have hk := hcond _ rfl
  have hval : ∀ (j : Nat) t v, Tryd.f12.params[j]? = some t → args[j]? = some v → Value.okWide Tryd.prog W .any base t v := hval0
  have hW' := hW
  obtain ⟨p, q, hA0, hV, rfl, hfz, hnd⟩ := hW
  have hA : DataW.TrodAll enc Tryd.prog W 0 (fun _ => true) true [55, 9, 9] args.toList ds p := hA0
  obtain ⟨v0, vs0, d0, ds0, p0, q0, e0, rfl, rfl, h0, r0⟩ := trodAll_cons hA
  obtain ⟨v1, vs1, d1, ds1, p1, q1, rfl, rfl, rfl, h1, r1⟩ := trodAll_cons r0
  obtain ⟨v2, vs2, d2, ds2, p2, q2, rfl, rfl, rfl, h2, r2⟩ := trodAll_cons r1
  obtain ⟨rfl, rfl, rfl⟩ := trodAll_nil r2
  obtain rfl : args = #[v0, v1, v2] := by cases args; simp_all
  obtain ⟨rfl, rfl⟩ := trodVars_none hV
  have hb := small_of hk
  obtain ⟨s1, rfl, rfl, rfl, hs1⟩ := open_string Tryd.underlying9 (hval 1 9 v1 rfl rfl) h1
  obtain ⟨s2, rfl, rfl, rfl, hs2⟩ := open_string Tryd.underlying9 (hval 2 9 v2 rfl rfl) h2
  simp only [List.append_nil, Rows.uptoBulkAll, Rows.uptoBulk, Array.length_toList] at hb
  obtain ⟨a0, hnet0, hz0⟩ := open_net5 (hval 0 _ v0 rfl rfl) h0 (by omega)
  refine ((dfaSets_p v0 a0 s1 s2 (InW W) W.heap (fun k hk => hk) hnet0 (by have : s1.data.size = s1.size := rfl; omega) (by have : s2.data.size = s2.size := rfl; omega) (pow_of_laid hL)) W rfl).2.mono fun e W' ⟨v, he, henv, hv, hag⟩ => ?_
  subst he; subst hv
  exact ⟨_, rfl, post_true hW' rfl ⟨rfl, rfl, rfl⟩ laid_ (by kernel_rfl) rfl Tryd.underlying4 henv hag⟩

theorem dfaSets_said : Rows.DfaSetsUptoSaid :=
  OpenClaim.holds_of_cond 12 Tryd.f12 rfl rfl rfl rfl rfl rfl rfl ⟨rfl, rfl, rfl, rfl, rfl⟩ rfl rfl rfl rfl rfl (by kernel_rfl) Tryd.func12 (by kernel_rfl)
    (of_decide_eq_true (by kernel_rfl)) (by unfold Func.isWrapper; first | (rw [if_pos (by decide +kernel)]; kernel_rfl) | (rw [if_neg (by decide +kernel)]; exact ⟨rfl, rfl⟩))
    (fun os started H enc _ F => by rw [OpenClaim.pre_eq_preRow]; exact dfaSets_lifted os started H enc F)

theorem dfaSets_plain (f : FuncId) (fn : Func) (hf : Tryd.pinned.checked.prog.funcNamed "loupe/loupelaw05.DfaSets" = some f) (hfn : Tryd.pinned.checked.prog.funcs[f]? = some fn) :
    false = Tryd.pinned.checked.prog.looks [] ∧ ∀ (j : Nat) t, fn.params[j]? = some t → Tryd.pinned.checked.prog.wantsStandIn t = false := by
  obtain rfl : f = 12 := Option.some.inj ((show Tryd.prog.funcNamed "loupe/loupelaw05.DfaSets" = some 12 by kernel_rfl).symm.trans hf) |>.symm
  obtain rfl : fn = Tryd.f12 := (Option.some.inj (Tryd.func12.symm.trans hfn)).symm
  refine ⟨by kernel_rfl, fun j t ht => ?_⟩
  have ht : (#[55, 9, 9] : Array TypeId)[j]? = some t := ht
  have hm := Array.mem_of_getElem? ht
  simp only [List.mem_toArray, List.mem_cons, List.not_mem_nil, or_false] at hm
  rcases hm with rfl | rfl | rfl
  · exact (show Tryd.prog.wantsStandIn 55 = false by kernel_rfl)
  · exact (show Tryd.prog.wantsStandIn 9 = false by kernel_rfl)
  · exact (show Tryd.prog.wantsStandIn 9 = false by kernel_rfl)
theorem dfaSets_holds : Rows.DfaSetsUptoCardSaid :=
  Claim7.holds_tied_plain_at .later [] _ _ _ _ dfaSets_said (fun _ h => by cases h) (by kernel_rfl) (fun _ h => by cases h) dfaSetsUpto_row_tie rfl ⟨rfl, rfl⟩ (by kernel_rfl) rfl dfaSets_plain (by kernel_rfl)

#print axioms dfaSets_holds
end Go.Proofs.YthomdogheamfpaaDoor
