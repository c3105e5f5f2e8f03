/- split.Chunks; louperef10.Chunks, Ways. -/
import Derived.Test.YtpnnedkpbmilkaaPSpl7
set_option linter.unusedVariables false
set_option linter.unusedSimpArgs false
set_option maxRecDepth 100000
namespace Go.Proofs.Ytpnnedkpbmilkaa
open Go.VC
attribute [local irreducible] mRun atRun

def chunksF (o : Option AM) (s : ByteArray) : Nat → Int → List Int
  | 0, _ => []
  | n + 1, q => if finM o (stepM o q (byteB s n)) && decide (0 < (wy o s n).2) then ((s.size - n : Nat) : Int) :: chunksF o s n 0 else chunksF o s n (stepM o q (byteB s n))
def chunksM (o : Option AM) (s : ByteArray) : List Int × Int := if (wy o s s.size).2 = 0 then ([], 3) else (chunksF o s s.size 0, 0)
theorem chunksF_len (o : Option AM) (s : ByteArray) : ∀ (n : Nat) (q : Int), (chunksF o s n q).length ≤ n
  | 0, _ => Nat.le_refl _
  | n + 1, q => by
    rw [chunksF]
    have h1 := chunksF_len o s n 0
    have h2 := chunksF_len o s n (stepM o q (byteB s n))
    split <;> simp <;> omega
theorem chunks_find (o : Option AM) (s : ByteArray) : ∀ n, n ≤ s.size → ∀ q, chunksF o s n q = match (endsF o s n q).find? (fun e => decide (0 < (wy o s (s.size - e)).2)) with
      | none => []
      | some e => (e : Int) :: chunksF o s (s.size - e) 0
  | 0, _, _ => rfl
  | n + 1, hn, q => by
    have ih := chunks_find o s n (by omega) (stepM o q (byteB s n))
    rw [chunksF, endsF]
    cases hf : finM o (stepM o q (byteB s n)) with
    | false =>
      simp only [Bool.false_and, Bool.false_eq_true, if_false, List.nil_append]
      exact ih
    | true =>
      have e1 : s.size - (s.size - n) = n := by omega
      simp only [Bool.true_and, if_true, List.singleton_append, List.find?_cons, e1]
      by_cases hw : 0 < (wy o s n).2
      · simp only [hw, decide_true, if_true, e1]
      · simp only [hw, decide_false, Bool.false_eq_true, if_false]
        exact ih

set_option maxHeartbeats 4000000 in
theorem chunks_c {S : Nat → Prop} {H : Heap} {v : Value} {o : Option AM} {s : ByteArray} (hS : ∀ k, S k → k < H.size) (hv : AutoV S H v o) (hs : s.size ≤ 1048576) :
    FnOk Try.prog 44 #[v, .string s] H fun v' H' => Agr (Old H) H H' ∧ ∃ w, v' = .tuple #[w, .int .i64 (chunksM o s).2] ∧ SlO tI none_ H' H.size 3 w (chunksM o s).1 := by
  obtain ⟨hn1, hn2⟩ := stN_le hv
  refine FnOk.of_vc Try.func44 rfl (Try.call44 _) ?_
  have d0 : decide ((1048576 : Int) < (s.size : Int)) = false := decide_eq_false (by omega)
  (conv => whnf); rw [d0]
  (conv => whnf); refine VCall.mk (lists_c hS hv (by omega)) ?_
  rintro v1 H1 ⟨hA1, hs1, b, rfl, hw⟩
  obtain ⟨_, _, e1, hcan, -⟩ := hw.view (S' := Old H1) (fun j hj => (hw.lt hj).2) (fun _ f => f.elim)
  injection e1 with e1 e2 e3
  subst e1; subst e3
  have wl := wayL_len o s s.size
  have hv1 : ∀ {H' : Heap}, Agr (Old H1) H1 H' → AutoV S H' v o := fun k => (hv.frame (hA1.mono hS)).frame (k.mono fun j hj => old_lt hA1 (hS j hj))
  have up : ∀ {H' : Heap}, Agr (Old H1) H1 H' → ∀ k, S k → k < H'.size := fun h k hk => old_lt h (old_lt hA1 (hS k hk))
  have wat : ∀ i, i ≤ s.size → (wayL o s s.size)[i]? = some (((wy o s (s.size - i)).2 : Nat) : Int) := fun i hi => by rw [wayL_get o s s.size (by omega), if_pos (by omega)]
  have w0 := wat 0 (by omega)
  rw [Nat.sub_zero] at w0
  (conv => whnf); refine ixrn (i := 0) sl35 hcan wl.symm w0 rfl ?_
  rintro b2 o2 cs2 hSb2 hcells2 ⟨rfl, -⟩
  (conv => whnf); refine ld1 ct3 hcells2.one trivial ?_
  by_cases hz : (wy o s s.size).2 = 0
  · have d1 : ((((wy o s s.size).2 : Nat) : Int) == 0) = true := by rw [hz]; rfl
    (conv => whnf); rw [d1]
    (conv => whnf)
    unfold chunksM
    rw [if_pos hz]
    exact ⟨hA1, _, rfl, SlO.nil⟩
  · have d1 : ((((wy o s s.size).2 : Nat) : Int) == 0) = false := by rw [beq_eq_false_iff_ne]; omega
    have hM : chunksM o s = (chunksF o s s.size 0, 0) := by unfold chunksM; rw [if_neg hz]
    (conv => whnf); rw [d1]
    (conv => whnf)
    refine VLoop.mk [7, 8, 22] (fun x : Nat × Int × List Int × Option Addr × Nat => match x with | (m, q, L, a, c) => [.slice a L.length c, .int .i64 q, .int .i64 ((s.size - m : Nat) : Int)])
      (fun x H2 => x.1 ≤ s.size ∧ (0 ≤ x.2.1 ∧ x.2.1 < stN o) ∧ x.2.2.1 ++ chunksF o s x.1 x.2.1 = chunksF o s s.size 0 ∧ x.2.2.1.length ≤ s.size ∧ St H1 H2 [pS tI 3 x.2.2.2.1 x.2.2.1.length x.2.2.2.2 x.2.2.1]) (fun x _ => x.1) ?_ ?_
    · (conv => whnf)
      exact ⟨(s.size, 0, [], none, 0), by simp, Nat.le_refl _, ⟨Int.le_refl _, by simp only; omega⟩, rfl, by simp, (St.nil H1).nils tI 3⟩
    · rintro ⟨m, q, L, a, c⟩ H2 junk ⟨hm, ⟨q0, q1⟩, hL, hLl, st⟩
      simp only at hm q0 q1 hL hLl st
      by_cases hm0 : m = 0
      · subst hm0
        have d2 : decide (((s.size - 0 : Nat) : Int) < (s.size : Int)) = false := decide_eq_false (by omega)
        (conv => whnf); rw [d2]
        (conv => whnf)
        rw [chunksF, List.append_nil] at hL
        rw [hM, ← hL]
        exact ⟨hA1.trans (st.old.mono fun k hk => old_lt hA1 hk), _, rfl, (st.own 0 rfl).lower (by omega)⟩
      · obtain ⟨m, rfl⟩ : ∃ k, m = k + 1 := ⟨m - 1, by omega⟩
        have d2 : decide (((s.size - (m + 1) : Nat) : Int) < (s.size : Int)) = true := decide_eq_true (by omega)
        obtain ⟨b3, hb⟩ := get_byte (s := s) (k := s.size - (m + 1)) (by omega)
        have hbb := byteB_at hb
        have hLL := congrArg List.length hL
        have hcl := chunksF_len o s s.size 0
        rw [chunksF, hbb] at hL
        obtain ⟨qn, rfl⟩ := Int.eq_ofNat_of_zero_le q0
        have hqr := step_in (hv1 st.old) (q := qn) (b := b3.toNat) (by omega) (UInt8.toNat_lt b3)
        (conv => whnf); rw [d2]
        (conv => whnf); refine VSeq.run ?_
        (conv => whnf); refine vidxs strT rfl hb ?_
        (conv => whnf); refine pures (step_p (up st.old) (hv1 st.old) (UInt8.toNat_lt b3)) fun H3 ha3 => ?_
        have st3 := st.call ha3
        generalize stepM o (qn : Int) b3.toNat = q' at *
        (conv => whnf); refine pures (final_p (hv1 st3.old)) fun H4 ha4 => ?_
        have st4 := st3.call ha4
        have e1 : ((s.size - (m + 1) : Nat) : Int) + 1 = ((s.size - m : Nat) : Int) := by omega
        cases hf : finM o q' with
        | false =>
          rw [hf] at hL
          simp only [Bool.false_and, Bool.false_eq_true, if_false] at hL
          (conv => whnf); rw [w64 (x := ((s.size - (m + 1) : Nat) : Int) + 1) (by omega) (by omega), e1]
          exact ⟨rfl, (m, q', L, a, c), rfl, ⟨by simp only; omega, hqr, hL, hLl, st4⟩, by simp only; omega⟩
        | true =>
          rw [hf, Bool.true_and] at hL
          have wm := wat (s.size - m) (by omega)
          rw [show s.size - (s.size - m) = m by omega] at wm
          (conv => whnf); rw [w64 (x := ((s.size - (m + 1) : Nat) : Int) + 1) (by omega) (by omega), e1]
          (conv => whnf); refine ixrn (i := s.size - m) sl35 (hcan.frame st4.old) wl.symm wm rfl ?_
          rintro b5 o5 cs5 hSb5 hcells5 ⟨rfl, -⟩
          (conv => whnf); refine ld1 ct3 hcells5.one trivial ?_
          by_cases hw : 0 < (wy o s m).2
          · have d3 : decide ((0 : Int) < (((wy o s m).2 : Nat) : Int)) = true := decide_eq_true (by omega)
            simp only [hw, decide_true, if_true] at hL
            (conv => whnf); rw [d3]
            (conv => whnf); rw [w64 (x := ((s.size - (m + 1) : Nat) : Int) + 1) (by omega) (by omega), e1]
            (conv => whnf); refine vbuild1 sl35 [.int .i64 ((s.size - m : Nat) : Int)] rfl rfl (by decide) (by decide) ?_
            intro q6 H6 hq6 hs6 hb6 ha6
            (conv => whnf); refine app1 (st4.skip hq6 ha6) 0 sl35 rfl hb6 ⟨rfl, inI64 (by omega)⟩ rfl (by omega) (by decide) fun a' c' H7 st7 _ => ?_
            (conv => whnf); rw [w64 (x := ((s.size - (m + 1) : Nat) : Int) + 1) (by omega) (by omega), e1]
            have hLs : (L ++ [((s.size - m : Nat) : Int)]).length = L.length + 1 := by simp
            refine ⟨rfl, (m, 0, L ++ [((s.size - m : Nat) : Int)], a', c'), by simp only; rw [hLs], ⟨by simp only; omega, ⟨Int.le_refl _, by simp only; omega⟩, by simp only; rw [← hL]; simp, ?_, ?_⟩, by simp only; omega⟩
            · simp only
              have h1 := congrArg List.length hL
              rw [List.length_append, List.length_cons] at h1
              rw [hLs]; omega
            · simp only
              rw [hLs]
              exact st7
          · have d3 : decide ((0 : Int) < (((wy o s m).2 : Nat) : Int)) = false := decide_eq_false (by omega)
            simp only [hw, decide_false, Bool.false_eq_true, if_false] at hL
            (conv => whnf); rw [d3]
            (conv => whnf); rw [w64 (x := ((s.size - (m + 1) : Nat) : Int) + 1) (by omega) (by omega), e1]
            exact ⟨rfl, (m, q', L, a, c), rfl, ⟨by simp only; omega, hqr, hL, hLl, st4⟩, by simp only; omega⟩

theorem refways_p {S : Nat → Prop} {H : Heap} {v : Value} {o : Option AM} {D : DM} {s : ByteArray} (hS : ∀ k, S k → k < H.size) (hv : DfaV S H v D) (hB : Both o D) (hs : s.size ≤ 1048576) :
    Pure Try.prog 46 #[v, .string s] H (.tuple #[.int .i64 (((wy o s s.size).2 : Nat) : Int), .int .i64 0]) := by
  have hl := hv.len
  refine FnOk.of_vc Try.func46 rfl (Try.call46 _) ?_
  (conv => whnf); refine dfa_box hv fun ra rc na nc fa fc he a1 a2 a3 => ?_
  subst he
  intro pa H1 hpa hs1 hb1 ha1
  have st1 := (St.nil H).box hpa hs1 hb1 ha1
  have d0 : decide ((1048576 : Int) < (s.size : Int)) = false := decide_eq_false (by omega)
  (conv => whnf); rw [d0]
  (conv => whnf); refine dfa_load (st1.blk 0 rfl) hl trivial (a1.frame (st1.old.mono hS)) (a2.frame (st1.old.mono hS)) (a3.frame (st1.old.mono hS)) fun v3 hv3 => ?_
  (conv => whnf); refine VCall.mk (refends_c (fun k hk => old_lt st1.old (hS k hk)) hv3 hB hs) ?_
  rintro _ H2 ⟨ha2, nb, wb, rfl, hn, hw⟩
  have wl := wayL_len o s s.size
  have w0 := wayL_get o s s.size (i := 0) (by omega)
  rw [if_pos (by omega), Nat.sub_zero] at w0
  (conv => whnf); refine ixrn (i := 0) sl35 hw wl.symm w0 rfl ?_
  rintro b5 o5 cs5 hSb5 hcells5 ⟨rfl, -⟩
  (conv => whnf); refine ld1 ct3 hcells5.one trivial ?_
  (conv => whnf)
  exact ⟨rfl, st1.old.trans (ha2.mono fun k hk => old_lt st1.old hk)⟩

set_option maxHeartbeats 4000000 in
theorem refchunks_c {S : Nat → Prop} {H : Heap} {v : Value} {o : Option AM} {D : DM} {s : ByteArray} (hS : ∀ k, S k → k < H.size) (hv : DfaV S H v D) (hB : Both o D) (hs : s.size ≤ 1048576) :
    FnOk Try.prog 43 #[v, .string s] H fun v' H' => Agr (Old H) H H' ∧ ∃ w, v' = .tuple #[w, .int .i64 (chunksM o s).2] ∧ SlO tI none_ H' H.size 3 w (chunksM o s).1 := by
  have hl := hv.len
  refine FnOk.of_vc Try.func43 rfl (Try.call43 _) ?_
  (conv => whnf); refine dfa_box hv fun ra rc na nc fa fc he a1 a2 a3 => ?_
  subst he
  intro pa H1 hpa hs1 hb1 ha1
  have st1 := (St.nil H).box hpa hs1 hb1 ha1
  have d0 : decide ((1048576 : Int) < (s.size : Int)) = false := decide_eq_false (by omega)
  (conv => whnf); rw [d0]
  (conv => whnf); refine dfa_load (st1.blk 0 rfl) hl trivial (a1.frame (st1.old.mono hS)) (a2.frame (st1.old.mono hS)) (a3.frame (st1.old.mono hS)) fun v3 hv3 => ?_
  (conv => whnf); refine VCall.mk (refends_c (fun k hk => old_lt st1.old (hS k hk)) hv3 hB hs) ?_
  rintro _ H2 ⟨ha2, nb, wb, rfl, hn, hw⟩
  have hA2 := st1.old.trans (ha2.mono fun k hk => old_lt st1.old hk)
  have wl := wayL_len o s s.size
  have el := endsT_len o s s.size
  have wat : ∀ i, i ≤ s.size → (wayL o s s.size)[i]? = some (((wy o s (s.size - i)).2 : Nat) : Int) := fun i hi => by rw [wayL_get o s s.size (by omega), if_pos (by omega)]
  have eat : ∀ i, i ≤ s.size → (endsT o s s.size)[i]? = some (endsI o s (s.size - i) 0) := fun i hi => by rw [endsT_get o s s.size (by omega), if_pos (by omega)]
  have w0 := wat 0 (by omega)
  rw [Nat.sub_zero] at w0
  (conv => whnf); refine ixrn (i := 0) sl35 hw wl.symm w0 rfl ?_
  rintro b5 o5 cs5 hSb5 hcells5 ⟨rfl, -⟩
  (conv => whnf); refine ld1 ct3 hcells5.one trivial ?_
  by_cases hz : (wy o s s.size).2 = 0
  · have d1 : ((((wy o s s.size).2 : Nat) : Int) == 0) = true := by rw [hz]; rfl
    (conv => whnf); rw [d1]
    (conv => whnf)
    unfold chunksM
    rw [if_pos hz]
    exact ⟨hA2, _, rfl, SlO.nil⟩
  · have d1 : ((((wy o s s.size).2 : Nat) : Int) == 0) = false := by rw [beq_eq_false_iff_ne]; omega
    have hM : chunksM o s = (chunksF o s s.size 0, 0) := by unfold chunksM; rw [if_neg hz]
    (conv => whnf); rw [d1]
    (conv => whnf)
    refine VLoop.mk [8, 9] (fun x : Nat × List Int × Option Addr × Nat => match x with | (i, L, a, c) => [.slice a L.length c, .int .i64 (i : Int)])
      (fun x H3 => x.1 ≤ s.size ∧ (wy o s (s.size - x.1)).2 ≠ 0 ∧ x.2.1 ++ chunksF o s (s.size - x.1) 0 = chunksF o s s.size 0 ∧ x.2.1.length ≤ s.size ∧ St H2 H3 [pS tI 3 x.2.2.1 x.2.1.length x.2.2.2 x.2.1]) (fun x _ => s.size - x.1) ?_ ?_
    · (conv => whnf)
      exact ⟨(0, [], none, 0), rfl, by simp, hz, rfl, by simp, (St.nil H2).nils tI 3⟩
    · rintro ⟨i, L, a, c⟩ H3 junk ⟨hi, hW, hL, hLl, st⟩
      simp only at hi hW hL hLl st
      (conv => whnf); refine VIte.mk (fun h => ?_) (fun h => ?_) <;> simp only [decide_eq_true_eq, decide_eq_false_iff_not] at h
      · obtain ⟨m, hm⟩ : ∃ m, s.size - i = m + 1 := ⟨s.size - i - 1, by omega⟩
        have hsum := wy_at o s (n := m) (by omega)
        rw [← hm] at hsum
        have hne : sumW o s (endsF o s (s.size - i) 0) ≠ 0 := by omega
        obtain ⟨e, hfe⟩ : ∃ e, (endsF o s (s.size - i) 0).find? (fun e => decide (0 < (wy o s (s.size - e)).2)) = some e := by
          rw [← Option.isSome_iff_exists, List.find?_isSome]
          apply Classical.byContradiction
          intro hno
          apply hne
          unfold sumW
          rw [List.sum_eq_zero_iff_forall_eq_nat]
          intro x hx
          obtain ⟨e, he, rfl⟩ := List.mem_map.1 hx
          apply Classical.byContradiction
          intro h0
          exact hno ⟨e, he, by simp; omega⟩
        have hch := chunks_find o s (s.size - i) (by omega) 0
        rw [hfe] at hch
        simp only at hch
        obtain ⟨hpe, idx, hidx, hge, hbef⟩ := List.find?_eq_some_iff_getElem.1 hfe
        simp only [decide_eq_true_eq] at hpe
        have hmem := endsF_mem (o := o) (s := s) (n := s.size - i) (q := 0) (by omega) (hge ▸ List.getElem_mem hidx)
        have hrow := eat i (by omega)
        have hat : ∀ k, k ≤ idx → ∃ x : Nat, (endsI o s (s.size - i) 0)[k]? = some (x : Int) ∧ x ≤ s.size ∧ ((k < idx → (wy o s (s.size - x)).2 = 0) ∧ (k = idx → x = e)) := fun k hk => by
          have hkl : k < (endsF o s (s.size - i) 0).length := by omega
          refine ⟨(endsF o s (s.size - i) 0)[k], by unfold endsI; rw [List.getElem?_map, List.getElem?_eq_getElem hkl]; rfl, (endsF_mem (o := o) (s := s) (n := s.size - i) (q := 0) (by omega) (List.getElem_mem hkl)).2, fun hlt => ?_, fun heq => ?_⟩
          · have := hbef k hlt
            simp only [Bool.not_eq_true', decide_eq_false_iff_not] at this
            omega
          · subst heq; exact hge
        (conv => whnf)
        refine VLoop.mk [10] (fun k : Nat => [.int .i64 k]) (fun k H4 => k ≤ idx ∧ H4 = H3) (fun k _ => idx - k) ?_ ?_
        · (conv => whnf)
          exact ⟨0, rfl, by omega, rfl⟩
        · rintro k H4 junk4 ⟨hk, rfl⟩
          obtain ⟨x, hx, hxs, hx1, hx2⟩ := hat k hk
          (conv => whnf); refine ixrn (i := i) sl23 (hn.frame st.old) el.symm hrow rfl ?_
          rintro b6 o6 cs6 hSb6 hcells6 ⟨ra6, rc6, rfl, hr6⟩
          (conv => whnf); refine ld1 ct35 hcells6.one trivial ?_
          (conv => whnf); refine ixr (i := k) sl35 hr6 hx rfl ?_
          rintro b7 o7 cs7 hSb7 hcells7 ⟨rfl, -⟩
          (conv => whnf); refine ld1 ct3 hcells7.one trivial ?_
          (conv => whnf); refine ixrn (i := x) sl35 (hw.frame st.old) wl.symm (wat x hxs) rfl ?_
          rintro b8 o8 cs8 hSb8 hcells8 ⟨rfl, -⟩
          (conv => whnf); refine ld1 ct3 hcells8.one trivial ?_
          by_cases hki : k = idx
          · obtain rfl := hx2 hki
            have d2 : ((((wy o s (s.size - x)).2 : Nat) : Int) == 0) = false := by rw [beq_eq_false_iff_ne]; omega
            (conv => whnf); rw [d2]
            (conv => whnf); refine ixrn (i := i) sl23 (hn.frame st.old) el.symm hrow rfl ?_
            rintro b6 o6 cs6 hSb6 hcells6 ⟨ra6, rc6, rfl, hr6⟩
            (conv => whnf); refine ld1 ct35 hcells6.one trivial ?_
            (conv => whnf); refine ixr (i := k) sl35 hr6 hx rfl ?_
            rintro b7 o7 cs7 hSb7 hcells7 ⟨rfl, -⟩
            (conv => whnf); refine ld1 ct3 hcells7.one trivial ?_
            (conv => whnf); refine vbuild1 sl35 [.int .i64 (x : Int)] rfl rfl (by decide) (by decide) ?_
            intro q9 H9 hq9 hs9 hb9 ha9
            (conv => whnf); refine app1 (st.skip hq9 ha9) 0 sl35 rfl hb9 ⟨rfl, inI64 (by omega)⟩ rfl (by omega) (by decide) fun a' c' H10 st10 _ => ?_
            (conv => whnf)
            have hLs : (L ++ [(x : Int)]).length = L.length + 1 := by simp
            rw [hch] at hL
            refine ⟨rfl, (x, L ++ [(x : Int)], a', c'), by simp only; rw [hLs], ⟨hxs, by simp only; omega, by simp only; rw [← hL]; simp, ?_, ?_⟩, by simp only; omega⟩
            · simp only
              have h1 := congrArg List.length hL
              have h2 := chunksF_len o s s.size 0
              rw [List.length_append, List.length_cons] at h1
              rw [hLs]; omega
            · simp only
              rw [hLs]
              exact st10
          · have d2 : ((((wy o s (s.size - x)).2 : Nat) : Int) == 0) = true := by rw [hx1 (by omega)]; rfl
            (conv => whnf); rw [d2]
            have hil : idx ≤ s.size := by have := endsF_len o s (s.size - i) 0; omega
            (conv => whnf); rw [w64 (x := (k : Int) + 1) (by omega) (by omega)]
            exact ⟨rfl, k + 1, by simp, ⟨by omega, rfl⟩, by omega⟩
      · obtain rfl : i = s.size := by omega
        (conv => whnf)
        rw [Nat.sub_self, chunksF, List.append_nil] at hL
        rw [hM, ← hL]
        exact ⟨hA2.trans (st.old.mono fun k hk => old_lt hA2 hk), _, rfl, (st.own 0 rfl).lower (by have := old_size hA2; omega)⟩
end Go.Proofs.Ytpnnedkpbmilkaa
