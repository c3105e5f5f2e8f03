/- louperef10.takes, Cuts. -/
import Derived.Test.YtpnnedkpbmilkaaPSpl4
import Derived.Test.YtpnnedkpbmilkaaVMem
import Derived.Test.YtpnnedkpbmilkaaPBoth
set_option linter.unusedVariables false
set_option linter.unusedSimpArgs false
set_option maxRecDepth 100000
namespace Go.Proofs.Ytpnnedkpbmilkaa
open Go.VC
attribute [local irreducible] mRun atRun

section
variable {o : Option AM} {D : DM}
theorem from_acc (o : Option AM) (s : ByteArray) {i : Nat} (hi : i ≤ s.size) : fromM o s i 0 = acceptsM o (s.extract i s.size) := by
  have hl : (s.extract i s.size).data.toList = s.data.toList.drop i := by
    have : s.data.size = s.size := rfl
    rw [ByteArray.data_extract, Array.toList_extract]
    rw [List.extract_eq_take_drop, List.take_of_length_le (by rw [List.length_drop, Array.length_toList]; omega)]
  have hz : (s.extract i s.size).size = s.size - i := by simp
  unfold fromM acceptsM runM
  rw [hl, List.take_of_length_le (by rw [List.length_drop, Array.length_toList, hz]; exact Nat.le_refl _)]
theorem takes_p {S : Nat → Prop} {H : Heap} {v : Value} {s : ByteArray} {ua : Option Addr} {uc : Nat} (hS : ∀ k, S k → k < H.size) (h : DfaV S H v D) (hok : D.Ok) (hu : SlD tBool S H ua uc (usefulL D)) (hs : s.size ≤ maxLen) :
    Pure Try.prog 63 #[v, .slice ua (usefulL D).length uc, .string s] H (.bool (acceptsD D s)) := by
  unfold maxLen at hs
  have hlen := h.len
  have hfl := hok.fl
  refine FnOk.of_vc Try.func63 rfl (Try.call63 _) ?_
  (conv => whnf); refine dfa_box h fun ra rc na nc fa fc he h1 h2 h3 => ?_
  subst he
  intro pb H1 hpb hs1 hb1 ha1
  have st1 := (St.nil H).box hpb hs1 hb1 ha1
  have up : ∀ {H' : Heap}, Agr (Old H) H H' → ∀ k, S k → k < H'.size := fun h k hk => old_lt h (hS k hk)
  (conv => whnf)
  refine VLoop.mk [7, 8] (fun k : Nat => [.int .i64 (runD D s k), .int .i64 k]) (fun k H2 => k ≤ s.size ∧ St H H2 [pB 37 pb (dfaL D.cell (.slice ra D.reps.length rc) (.slice na D.next.length nc) (.slice fa D.final.length fc))]) (fun k _ => s.size - k) ?_ ?_
  · (conv => whnf); exact ⟨0, rfl, by omega, st1⟩
  · rintro k H2 junk ⟨hk, st⟩
    have hA := st.old
    have hb2 := st.blk 0 rfl
    obtain ⟨r0, r1⟩ := runD_range hok s k hk
    have hal := useful_at (D := D) (q := (runD D s k).toNat) (by omega)
    rw [Int.toNat_of_nonneg r0] at hal
    by_cases hlt : k < s.size
    · have d1 : decide ((k : Int) < (s.size : Int)) = true := decide_eq_true (by omega)
      (conv => whnf); rw [d1]
      (conv => whnf); refine ixr (i := (runD D s k).toNat) sl24 (hu.frame (hA.mono hS)) hal (by omega) ?_
      rintro b5 o5 cs5 hSb5 hcells5 rfl
      (conv => whnf); refine ld1 ct4 hcells5.one trivial ?_
      cases hx : aliveD D (runD D s k) with
      | false =>
        rw [hx] at hal
        (conv => whnf); refine ixr (i := (runD D s k).toNat) sl24 (hu.frame (hA.mono hS)) hal (by omega) ?_
        rintro b6 o6 cs6 hSb6 hcells6 rfl
        (conv => whnf); refine ld1 ct4 hcells6.one trivial ?_
        (conv => whnf)
        exact ⟨by rw [dead_acc hok s hk hx], hA⟩
      | true =>
        obtain ⟨b, hb⟩ := get_byte hlt
        (conv => whnf); refine VDraw.held (Old H2) 6 (sq [0,1,2,3,4] (.f 5 (.f 6 .e))) rfl (by kernel_rfl) ?_
        (conv => whnf); refine dfa_load hb2 hlen hb2.lt (h1.frame (hA.mono hS)) (h2.frame (hA.mono hS)) (h3.frame (hA.mono hS)) fun v3 hv3 => ?_
        (conv => whnf); refine vidxs strT rfl hb ?_
        (conv => whnf); refine pures (refstep_p (up hA) hv3 hok (UInt8.toNat_lt b)) fun H4 ha4 => ?_
        refine ⟨ha4, ?_⟩
        rw [← runD_succ hb]
        (conv => whnf); rw [w64 (x := (k : Int) + 1) (by omega) (by omega)]
        exact ⟨rfl, k + 1, by simp, ⟨by omega, st.call ha4⟩, by omega⟩
    · obtain rfl : k = s.size := by omega
      have d1 : decide ((s.size : Int) < (s.size : Int)) = false := decide_eq_false (by omega)
      (conv => whnf); rw [d1]
      (conv => whnf); refine ixr (i := (runD D s s.size).toNat) sl24 (hu.frame (hA.mono hS)) hal (by omega) ?_
      rintro b5 o5 cs5 hSb5 hcells5 rfl
      (conv => whnf); refine ld1 ct4 hcells5.one trivial ?_
      cases hx : aliveD D (runD D s s.size) with
      | false =>
        (conv => whnf)
        exact ⟨by rw [dead_acc hok s hk hx], hA⟩
      | true =>
        obtain ⟨f, hf⟩ := get_some (l := D.final) (k := (runD D s s.size).toNat) (by omega)
        (conv => whnf); refine VC.fa fl37_3 ?_
        (conv => whnf); refine ld1 ct24 (by rw [hb2.cell, Nat.zero_add]; exact dfaL_258 hlen) trivial ?_
        (conv => whnf); refine ixr (i := (runD D s s.size).toNat) sl24 (h3.frame (hA.mono hS)) hf (by omega) ?_
        rintro b6 o6 cs6 hSb6 hcells6 rfl
        (conv => whnf); refine ld1 ct4 hcells6.one trivial ?_
        (conv => whnf)
        refine ⟨?_, hA⟩
        unfold acceptsD finD
        rw [hf, decide_eq_true r0]; rfl

theorem refcuts_c {S : Nat → Prop} {H : Heap} {va vb : Value} {oa ob : Option AM} {A B : DM} {s : ByteArray} (hS : ∀ k, S k → k < H.size) (ha : DfaV S H va A) (hb : DfaV S H vb B) (hoa : Both oa A) (hob : Both ob B) (hs : s.size ≤ 1048576) :
    FnOk Try.prog 39 #[va, vb, .string s] H fun v' H' => Agr (Old H) H H' ∧ ∃ w, v' = .tuple #[w, .int .i64 0] ∧ SlO tI none_ H' H.size 3 w (cutsM oa ob s) := by
  have hla := ha.len
  have hlb := hb.len
  refine FnOk.of_vc Try.func39 rfl (Try.call39 _) ?_
  (conv => whnf); refine dfa_box ha fun ra rc na nc fa fc he a1 a2 a3 => ?_
  subst he
  intro pa H1 hpa hs1 hb1 ha1
  have st1 := (St.nil H).box hpa hs1 hb1 ha1
  (conv => whnf); refine dfa_box (hb.frame (st1.old.mono hS)) fun ra' rc' na' nc' fa' fc' he b1 b2 b3 => ?_
  subst he
  intro pb H2 hpb hs2 hb2 ha2
  have st2 := st1.box hpb hs2 hb2 ha2
  have h12 : Agr (Old H1) H1 H2 := ha2.mono fun k hk => by unfold Old at hk; omega
  have up : ∀ {H' : Heap}, Agr (Old H) H H' → ∀ k, S k → k < H'.size := fun h k hk => old_lt h (hS k hk)
  have d0 : decide ((1048576 : Int) < (s.size : Int)) = false := decide_eq_false (by omega)
  (conv => whnf); rw [d0]
  have h12S := h12.mono fun k hk => old_lt st1.old (hS k hk)
  (conv => whnf); refine dfa_load (st2.blk 1 rfl) hlb trivial (b1.frame h12S) (b2.frame h12S) (b3.frame h12S) fun v3 hv3 => ?_
  (conv => whnf); refine VCall.mk (useful_c (up st2.old) hv3 hob.ok) ?_
  rintro v4 H4 ⟨ha4, hs4, ua, uc, rfl, hu⟩
  have st4 := st2.call ha4
  have hB0 := st4.blk 0 rfl
  have hB1 := st4.blk 1 rfl
  have e4 : Agr (Old H) H H4 := st4.old
  have h14 := h12.trans (ha4.mono fun k hk => old_lt h12 hk)
  have a1 := a1.frame (e4.mono hS)
  have a2 := a2.frame (e4.mono hS)
  have a3 := a3.frame (e4.mono hS)
  have b1 := b1.frame (h14.mono fun k hk => old_lt st1.old (hS k hk))
  have b2 := b2.frame (h14.mono fun k hk => old_lt st1.old (hS k hk))
  have b3 := b3.frame (h14.mono fun k hk => old_lt st1.old (hS k hk))
  have hS4 : ∀ k, S k → Old H4 k := fun k hk => old_lt e4 (hS k hk)
  have up : ∀ {H' : Heap}, Agr (Old H4) H4 H' → ∀ k, S k → k < H'.size := fun h k hk => old_lt h (hS4 k hk)
  have hu := hu.mono (S' := Old H4) fun k hk => hk.2
  (conv => whnf)
  refine VLoop.mk [9, 10, 11] (fun x : Nat × Option Addr × Nat => match x with | (n, a, c) => [.slice a (cutsTo oa ob s n).length c, .int .i64 (runD A s (min n s.size)), .int .i64 n])
    (fun x H5 => x.1 ≤ s.size + 1 ∧ St H4 H5 [pS tI 3 x.2.1 (cutsTo oa ob s x.1).length x.2.2 (cutsTo oa ob s x.1)]) (fun x _ => s.size + 1 - x.1) ?_ ?_
  · (conv => whnf)
    exact ⟨(0, none, 0), by simp [runD, cutsTo], by simp, (St.nil H4).nils tI 3⟩
  · rintro ⟨n, w, c⟩ H5 junk ⟨hn, st⟩
    simp only at hn st
    have hcl := cutsTo_len oa ob s n
    have e := st.old
    have hb0 := hB0.agr e hB0.lt
    have hb1 := hB1.agr e hB1.lt
    (conv => whnf); refine VIte.mk (fun h => ?_) (fun h => ?_) <;> simp only [decide_eq_true_eq, decide_eq_false_iff_not] at h
    · have hns : n ≤ s.size := by omega
      rw [Nat.min_eq_left hns]
      obtain ⟨r0, r1⟩ := runD_range hoa.ok s n hns
      have hfr : fromM ob s n 0 = acceptsD B (s.extract n s.size) := by rw [from_acc ob s hns, hob.acc]
      have hfa : finM oa (runM oa s n) = finD A (runD A s n) := by rw [hoa.run, hoa.fin]
      have g0 := fin_at hoa.ok r0 r1
      (conv => whnf); refine VSeq.run ?_
      (conv => whnf)
      refine VSeq.cut [9] (fun x : Option Addr × Nat => match x with | (a, c) => [.slice a (cutsTo oa ob s (n + 1)).length c]) (fun x H7 => St H4 H7 [pS tI 3 x.1 (cutsTo oa ob s (n + 1)).length x.2 (cutsTo oa ob s (n + 1))]) ?_ ?_
      · have no : (fromM ob s n 0 && finM oa (runM oa s n)) = false → ∀ {H6 : Heap}, Agr (Old H5) H5 H6 → St H4 H6 [pS tI 3 w (cutsTo oa ob s (n + 1)).length c (cutsTo oa ob s (n + 1))] ∧ cutsTo oa ob s (n + 1) = cutsTo oa ob s n := fun hb H6 h6 => by
          have hc : cutsTo oa ob s (n + 1) = cutsTo oa ob s n := by rw [cutsTo_succ, hb]; rfl
          rw [hc]
          exact ⟨st.call h6, rfl⟩
        (conv => whnf); refine VDraw.quiet (Old H5) rfl (by kernel_rfl) ?_
        (conv => whnf); refine VC.fa fl37_3 ?_
        (conv => whnf); refine ld1 ct24 (by rw [hb0.cell, Nat.zero_add]; exact dfaL_258 hla) hb0.lt ?_
        (conv => whnf); refine ixr (i := (runD A s n).toNat) sl24 (a3.frame (e.mono hS4)) g0 (by omega) ?_
        rintro b6 o6 cs6 hSb6 hcells6 rfl
        (conv => whnf); refine ld1 ct4 hcells6.one (up e _ hSb6) ?_
        cases hfi : finD A (runD A s n) with
        | false =>
          (conv => whnf); intro H6 h6
          obtain ⟨s6, hc⟩ := no (by rw [hfa, hfi, Bool.and_false]) h6
          (conv => whnf); exact ⟨rfl, (w, c), by rw [hc], s6⟩
        | true =>
          (conv => whnf); refine dfa_load hb1 hlb hb1.lt (b1.frame (e.mono hS4)) (b2.frame (e.mono hS4)) (b3.frame (e.mono hS4)) fun v7 hv7 => ?_
          (conv => whnf); refine vcutSL strT (by omega) (by omega) ?_
          rw [Int.toNat_natCast]
          (conv => whnf); refine pureq (fun H' h' => takes_p (S := Old H4) (fun k hk => old_lt (e.trans (h'.mono fun k hk => old_lt e hk)) hk) ((hv7.frame (h'.mono fun k hk => up e k hk)).mono hS4) hob.ok (hu.frame (e.trans (h'.mono fun k hk => old_lt e hk))) (by simp only [ByteArray.size_extract, maxLen]; omega)) ?_
          cases hac : acceptsD B (s.extract n s.size) with
          | false =>
            (conv => whnf); intro H6 h6
            obtain ⟨s6, hc⟩ := no (by rw [hfr, hac, Bool.false_and]) h6
            (conv => whnf); exact ⟨rfl, (w, c), by rw [hc], s6⟩
          | true =>
            have hc : cutsTo oa ob s (n + 1) = cutsTo oa ob s n ++ [(n : Int)] := by rw [cutsTo_succ, hfr, hac, hfa, hfi]; rfl
            (conv => whnf); intro H6 h6
            (conv => whnf); refine vbuild1 sl35 [.int .i64 (n : Int)] rfl rfl (by decide) (by decide) ?_
            intro q7 H7 hq7 hs7 hb7 ha7
            (conv => whnf); refine app1 ((st.call h6).skip hq7 ha7) 0 sl35 rfl hb7 ⟨rfl, inI64 (by omega)⟩ rfl (by omega) (by decide) fun a' c' H8 st8 _ => ?_
            (conv => whnf)
            refine ⟨rfl, (a', c'), by rw [hc, List.length_append]; rfl, ?_⟩
            rw [hc, List.length_append]
            exact st8
      · rintro ⟨a', c'⟩ H8 junk8 st8
        simp only at st8
        have e8 := st8.old
        have hb8 := hB0.agr e8 hB0.lt
        by_cases hlt : n < s.size
        · obtain ⟨b, hb⟩ := get_byte hlt
          have d1 : decide ((n : Int) < (s.size : Int)) = true := decide_eq_true (by omega)
          (conv => whnf); rw [d1]
          (conv => whnf); refine VDraw.held (Old H8) 6 (sq [0,1,2,3,4] (.f 5 (.f 6 .e))) rfl (by kernel_rfl) ?_
          (conv => whnf); refine dfa_load hb8 hla hb8.lt (a1.frame (e8.mono hS4)) (a2.frame (e8.mono hS4)) (a3.frame (e8.mono hS4)) fun v9 hv9 => ?_
          (conv => whnf); refine vidxs strT rfl hb ?_
          (conv => whnf); refine pures (refstep_p (up e8) hv9 hoa.ok (UInt8.toNat_lt b)) fun H9 ha9 => ?_
          refine ⟨ha9, ?_⟩
          rw [← runD_succ hb]
          (conv => whnf); rw [w64 (x := (n : Int) + 1) (by omega) (by omega)]
          exact ⟨rfl, (n + 1, a', c'), by simp only; rw [Nat.min_eq_left (by omega)]; simp, ⟨by simp only; omega, st8.call ha9⟩, by simp only; omega⟩
        · have d1 : decide ((n : Int) < (s.size : Int)) = false := decide_eq_false (by omega)
          (conv => whnf); rw [d1]
          (conv => whnf); rw [w64 (x := (n : Int) + 1) (by omega) (by omega)]
          exact ⟨rfl, (n + 1, a', c'), by simp only; rw [Nat.min_eq_right (by omega), show n = s.size by omega]; simp, ⟨by simp only; omega, st8⟩, by simp only; omega⟩
    · obtain rfl : n = s.size + 1 := by omega
      (conv => whnf)
      exact ⟨e4.trans (e.mono fun k hk => old_lt e4 hk), _, rfl, (st.own 0 rfl).lower (by have := old_size e4; omega)⟩
end
end Go.Proofs.Ytpnnedkpbmilkaa
