/- The law WordsLists: its walk. -/
import Derived.Test.YtkgmhkcncemmkaaPWLs5
import Derived.Test.YtkgmhkcncemmkaaPWrd14
set_option linter.unusedVariables false
set_option linter.unusedSimpArgs false
set_option maxRecDepth 100000
namespace Go.Proofs.Ytkgmhkcncemmkaa
open Go.VC
attribute [local irreducible] mRun gRun atRun
set_option maxHeartbeats 4000000 in
theorem listed08_p (a1 a2 : Option Addr) (c1 c2 : Nat) (xs : List ByteArray) {S : Nat → Prop} {H : Heap} (hS : ∀ k, S k → k < H.size) (h1 : SlD tS S H a1 c1 xs) (h2 : SlD tS S H a2 c2 xs) (hl : xs.length ≤ 1048576) :
    Pure Try.prog 30 #[.slice a1 xs.length c1, .slice a2 xs.length c2] H (.bool true) := by
  refine FnOk.of_vc Try.func30 rfl (Try.call30 _) ?_
  have d1 : ((xs.length : Int) != (xs.length : Int)) = false := by simp
  (conv => whnf); rw [d1]
  (conv => whnf)
  refine VLoop.mk [5] (fun i : Nat => [.int .i64 (i : Int)]) (fun i H2 => i ≤ xs.length ∧ Agr (Old H) H H2) (fun i _ => xs.length - i) ?_ ?_
  · (conv => whnf)
    exact ⟨0, rfl, Nat.zero_le _, Agr.refl _ _⟩
  · rintro i H2 junk ⟨hi, ha⟩
    (conv => whnf); refine VIte.mk (fun hz => ?_) (fun hz => ?_) <;> simp only [decide_eq_true_eq, decide_eq_false_iff_not] at hz
    · obtain ⟨x, hx⟩ := get_some (l := xs) (k := i) (by omega)
      have e1 := h1.frame (ha.mono hS)
      have e2 := h2.frame (ha.mono hS)
      (conv => whnf); refine VDraw.lex rfl (by kernel_rfl) ?_
      (conv => whnf); refine ixr (i := i) sl57 e1 hx rfl ?_
      rintro b3 o3 c3 hS3 hc3 ⟨rfl, -⟩
      (conv => whnf); refine ld1 ct9 hc3.one trivial ?_
      (conv => whnf); refine ixr (i := i) sl57 e2 hx rfl ?_
      rintro b4 o4 c4 hS4 hc4 ⟨rfl, -⟩
      (conv => whnf); refine ld1 ct9 hc4.one trivial ?_
      have d2 : (!(x.toList == x.toList)) = false := by simp
      (conv => whnf); rw [d2]
      (conv => whnf); rw [w64 (x := (i : Int) + 1) (by omega) (by omega)]
      exact ⟨rfl, i + 1, by simp, ⟨by omega, ha⟩, by omega⟩
    · (conv => whnf)
      exact ⟨rfl, ha⟩
theorem list_len (o : Option AM) (n : Int) : (listR o n).1.length ≤ 100 := by
  unfold listR
  split
  · simp
  · rename_i h
    simp only [List.length_map, List.length_take]
    omega
set_option maxHeartbeats 8000000 in
theorem wordsLists_p (v : Value) (cells : List (BitVec 256)) (next : List (List Int)) (final : List Bool) (n : Int) (S : Nat → Prop) (H : Heap) (ht : TabIn S H v cells next final) :
    Pure Try.prog 8 #[v, .int .i64 n] H (.bool true) := by
  refine FnOk.of_vc Try.func8 rfl (Try.call8 _) ?_
  (conv => whnf); refine tab_box ht fun l hl hv => ?_
  intro p H1 hp hs1 hb1 ha1
  have st1 := (St.nil H).box hp hs1 hb1 ha1
  (conv => whnf); refine pures (speaks08_p H1) fun H3 ha3 => ?_
  have st3 := st1.call ha3
  (conv => whnf); refine tab_load hl hv (st3.blk 0 rfl) trivial ?_
  (conv => whnf); refine VCall.mk (auto08_c v cells next final S H3 (ht.frame st3.old)) ?_
  rintro va H4 ⟨ha4, hs4, hva⟩
  have st4 := st3.call ha4
  have h4 := st4.old
  have hB4 := st4.blk 0 rfl
  obtain ⟨ls, hc⟩ := cells_ok cells next final
  have hoa := both_of cells next final
  generalize hoe : autoOf cells next final = oa at *
  generalize hAe : dfaOf cells next final = A at *
  have hst := stepIn_ hva
  have hva4 : AutoV (Old H4) H4 va oa := hva.mono fun k hk => hk.2
  (conv => whnf); refine tab_load hl hv hB4 trivial ?_
  (conv => whnf); refine VCall.mk (made_c v cells next final S H4 (ht.frame h4)) ?_
  rintro vA H6 ⟨ha6, hs6, hA⟩
  have t6 := (St.nil H4).call ha6
  rw [hAe] at hA
  have hlen := list_len oa n
  have hrl := reflist_c (S := Old H6) n (fun k hk => hk) (hA.mono fun k hk => hk.2) hoa hst
  have chk : ∀ {H' : Heap}, Agr (Old H4) H4 H' → FnOk Try.prog 29 #[va, .int .i64 n] H' fun r H'' => Agr (Old H') H' H'' ∧ ∃ a cap, r = .tuple #[.slice a (listR oa n).1.length cap, .int .i64 (listR oa n).2] ∧ SlO tS none_ H'' H'.size 9 (.slice a (listR oa n).1.length cap) (listR oa n).1 := fun h =>
    list_c n (S := Old H4) (fun k hk => old_lt h hk) (hva4.frame h) hc
  obtain ⟨L, hL⟩ : ∃ L, L = (listR oa n).1 := ⟨_, rfl⟩
  obtain ⟨g, hg⟩ : ∃ g, g = (listR oa n).2 := ⟨_, rfl⟩
  rw [← hL, ← hg] at chk hrl
  rw [← hL] at hlen
  have d1 : (g != g) = false := by simp
  have d2 : (g == g) = true := by simp
  have lst : ∀ {H' : Heap} {a1 a2 : Option Addr} {c1 c2 : Nat}, SlD tS (Old H') H' a1 c1 L → SlD tS (Old H') H' a2 c2 L → Pure Try.prog 30 #[.slice a1 L.length c1, .slice a2 L.length c2] H' (.bool true) := fun h1 h2 =>
    listed08_p _ _ _ _ L (fun k hk => hk) h1 h2 (by omega)
  (conv => whnf); refine VCall.mk hrl ?_
  rintro _ H7 ⟨ha7, wa, wc, rfl, hw⟩
  obtain ⟨wa', wc', e7, t7⟩ := t6.got ha7 hw
  injection e7 with e71 e72 e73
  subst e71; subst e73
  (conv => whnf); refine VCall.mk (chk t7.old) ?_
  rintro _ H8 ⟨ha8, fa, fc, rfl, hf⟩
  obtain ⟨fa', fc', e8, t8⟩ := t7.got ha8 hf
  injection e8 with e81 e82 e83
  subst e81; subst e83
  (conv => whnf); refine VCall.mk (chk t8.old) ?_
  rintro _ H9 ⟨ha9, sa, sc, rfl, hs⟩
  obtain ⟨sa', sc', e9, t9⟩ := t8.got ha9 hs
  injection e9 with e91 e92 e93
  subst e91; subst e93
  (conv => whnf); rw [d1]
  (conv => whnf); rw [d1]
  (conv => whnf); refine pures (lst (t9.view 1 rfl) (t9.view 0 rfl)) fun H10 ha10 => ?_
  have t10 := t9.call ha10
  (conv => whnf); refine pures (lst (t10.view 2 rfl) (t10.view 0 rfl)) fun H11 ha11 => ?_
  have t11 := t10.call ha11
  (conv => whnf)
  refine VLoop.mk [12] (fun i : Nat => [.int .i64 i]) (fun i H13 => i ≤ L.length ∧ ∃ xs : List ByteArray, xs.length = L.length ∧ St H4 H13 [pS tS 9 wa L.length wc L, pS tS 9 fa L.length fc xs, pS tS 9 sa L.length sc L]) (fun i _ => L.length - i) ?_ ?_
  · (conv => whnf)
    exact ⟨0, rfl, by omega, _, rfl, t11⟩
  · rintro i H13 junk ⟨hi, xs, hxl, t13⟩
    (conv => whnf); refine VIte.mk (fun h => ?_) (fun h => ?_) <;> simp only [decide_eq_true_eq, decide_eq_false_iff_not] at h
    · obtain ⟨b, rfl⟩ := t13.adr 1 rfl (by omega)
      (conv => whnf); refine ix sl57 (by omega) (by omega) ?_
      (conv => whnf); refine st1O (x := ⟨#[115, 112, 111, 105, 108, 116]⟩) t13 1 ct9 rfl rfl (by rw [Nat.zero_add, Nat.mul_one, Int.toNat_natCast]) (by omega) rfl (fun _ _ => ⟨rfl, by decide⟩) fun H14 t14 => ?_
      (conv => whnf); rw [w64 (x := (i : Int) + 1) (by omega) (by omega)]
      exact ⟨rfl, i + 1, by simp, ⟨by omega, _, by simp [hxl], t14⟩, by omega⟩
    · (conv => whnf); refine VCall.mk (chk t13.old) ?_
      rintro _ H14 ⟨ha14, ta, tc, rfl, htt⟩
      obtain ⟨ta', tc', e14, t14⟩ := t13.got ha14 htt
      injection e14 with e141 e142 e143
      subst e141; subst e143
      (conv => whnf); rw [d2]
      (conv => whnf); refine pures (lst (t14.view 2 rfl) (t14.view 0 rfl)) fun H15 ha15 => ?_
      have t15 := t14.call ha15
      (conv => whnf); refine pures (lst (t15.view 3 rfl) (t15.view 0 rfl)) fun H16 ha16 => ?_
      have t16 := t15.call ha16
      (conv => whnf)
      exact ⟨rfl, h4.trans (t16.old.mono fun k hk => old_lt h4 hk)⟩
end Go.Proofs.Ytkgmhkcncemmkaa
