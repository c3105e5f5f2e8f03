/- louperef10.Ends, Chunks, Ways; split.Chunks. -/
import Derived.Test.YtpnnedkpbmilkaaPSpl6
set_option linter.unusedVariables false
set_option linter.unusedSimpArgs false
set_option maxRecDepth 100000
namespace Go.Proofs.Ytpnnedkpbmilkaa
open Go.VC
attribute [local irreducible] mRun atRun

/-- The byte with n bytes behind it. -/
def byteB (s : ByteArray) (n : Nat) : Nat := (s.data.toList.getD (s.size - (n + 1)) 0).toNat
theorem byteB_lt (s : ByteArray) (n : Nat) : byteB s n < 256 := UInt8.toNat_lt _
theorem byteB_at {s : ByteArray} {n : Nat} {b : UInt8} (h : s.data[s.size - (n + 1)]? = some b) : byteB s n = b.toNat := by
  unfold byteB
  rw [List.getD_eq_getElem?_getD, Array.getElem?_toList, h]; rfl
/-- The ends of the members that go on from state q, with n bytes to go. -/
def endsF (o : Option AM) (s : ByteArray) : Nat → Int → List Nat
  | 0, _ => []
  | n + 1, q => (if finM o (stepM o q (byteB s n)) then [s.size - n] else []) ++ endsF o s n (stepM o q (byteB s n))
def sumW (o : Option AM) (s : ByteArray) (l : List Nat) : Nat := (l.map fun e => (wy o s (s.size - e)).2).sum
theorem sumW_append (o : Option AM) (s : ByteArray) (l k : List Nat) : sumW o s (l ++ k) = sumW o s l + sumW o s k := by simp [sumW]
theorem sumW_succ (o : Option AM) (s : ByteArray) {n : Nat} (hn : n ≤ s.size) (q : Int) : sumW o s (endsF o s (n + 1) q) = (if finM o (stepM o q (byteB s n)) then (wy o s n).2 else 0) + sumW o s (endsF o s n (stepM o q (byteB s n))) := by
  rw [endsF, sumW_append]
  congr 1
  cases finM o (stepM o q (byteB s n)) with
  | false => rfl
  | true =>
    simp only [if_true, sumW, List.map_cons, List.map_nil, List.sum_cons, List.sum_nil, Nat.add_zero]
    rw [show s.size - (s.size - n) = n by omega]
theorem wy_one (o : Option AM) (s : ByteArray) (n : Nat) (q : Int) : (wy o s (n + 1)).1 q = if finM o q then min 2 ((wy o s n).1 (stepM o q (byteB s n)) + (wy o s (n + 1)).2) else (wy o s n).1 (stepM o q (byteB s n)) := rfl
theorem wy_two (o : Option AM) (s : ByteArray) (n : Nat) : (wy o s (n + 1)).2 = (wy o s n).1 (stepM o 0 (byteB s n)) := rfl
theorem wy_sum (o : Option AM) (s : ByteArray) : ∀ n, n ≤ s.size → ∀ q, (wy o s n).1 q = min 2 ((if finM o q then (wy o s n).2 else 0) + sumW o s (endsF o s n q))
  | 0, _, q => by
    show (if finM o q then 1 else 0) = _
    cases finM o q <;> rfl
  | n + 1, hn, q => by
    rw [wy_one, sumW_succ o s (by omega), wy_sum o s n (by omega)]
    cases finM o q <;> simp only [if_true, if_false, Bool.false_eq_true] <;> omega
theorem wy_at (o : Option AM) (s : ByteArray) {n : Nat} (hn : n + 1 ≤ s.size) : (wy o s (n + 1)).2 = min 2 (sumW o s (endsF o s (n + 1) 0)) := by
  rw [wy_two, wy_sum o s n (by omega), sumW_succ o s (by omega)]
theorem endsF_mem {o : Option AM} {s : ByteArray} : ∀ {n : Nat} {q : Int} {e : Nat}, n ≤ s.size → e ∈ endsF o s n q → s.size - n < e ∧ e ≤ s.size
  | n + 1, q, e, hn, h => by
    rw [endsF] at h
    rcases List.mem_append.1 h with h | h
    · split at h
      · rw [List.mem_singleton] at h; omega
      · cases h
    · have := endsF_mem (by omega) h; omega
theorem endsF_len (o : Option AM) (s : ByteArray) : ∀ (n : Nat) (q : Int), (endsF o s n q).length ≤ n
  | 0, _ => Nat.le_refl _
  | n + 1, q => by
    rw [endsF, List.length_append]
    have := endsF_len o s n (stepM o q (byteB s n))
    split <;> simp <;> omega
theorem dead_ends {o : Option AM} {D : DM} (hB : Both o D) (s : ByteArray) : ∀ (m : Nat) (q : Int), 0 ≤ q → q < D.next.length → aliveD D q = false → endsF o s m q = []
  | 0, _, _, _, _ => rfl
  | m + 1, q, h0, h1, h => by
    have hb := byteB_lt s m
    have hd := dead_step hB.ok h0 h1 hb h
    have hr := stepD_range hB.ok h0 h1 hb
    rw [← hB.step q _ hb] at hd hr
    rw [endsF, hB.fin, dead_fin hd, dead_ends hB s m _ hr.1 hr.2 hd]; rfl
def endsI (o : Option AM) (s : ByteArray) (n : Nat) (q : Int) : List Int := (endsF o s n q).map fun (e : Nat) => (e : Int)
/-- The table of the ends, as far as it is known. -/
def endsT (o : Option AM) (s : ByteArray) (n : Nat) : List (List Int) := (List.range (s.size + 1)).map fun i => if s.size ≤ i + n then endsI o s (s.size - i) 0 else []
theorem endsT_len (o : Option AM) (s : ByteArray) (n : Nat) : (endsT o s n).length = s.size + 1 := by simp [endsT]
theorem endsT_get (o : Option AM) (s : ByteArray) (n : Nat) {i : Nat} (h : i < s.size + 1) : (endsT o s n)[i]? = some (if s.size ≤ i + n then endsI o s (s.size - i) 0 else []) := by
  unfold endsT
  rw [List.getElem?_map, List.getElem?_range h]; rfl
theorem endsT_put (o : Option AM) (s : ByteArray) {n : Nat} (h : n + 1 ≤ s.size) : (endsT o s n).set (s.size - (n + 1)) (endsI o s (n + 1) 0) = endsT o s (n + 1) := by
  apply List.ext_getElem?
  intro j
  by_cases hj : j < s.size + 1
  · rw [endsT_get o s (n + 1) hj, List.getElem?_set, endsT_len]
    by_cases hjn : s.size - (n + 1) = j
    · subst hjn
      rw [if_pos rfl, if_pos hj, if_pos (by omega), show s.size - (s.size - (n + 1)) = n + 1 by omega]
    · rw [if_neg hjn, endsT_get o s n hj]
      have : (s.size ≤ j + n) ↔ (s.size ≤ j + (n + 1)) := by omega
      simp only [this]
  · rw [List.getElem?_eq_none (by rw [List.length_set, endsT_len]; omega), List.getElem?_eq_none (by rw [endsT_len]; omega)]
theorem endsT_zero (o : Option AM) (s : ByteArray) : List.replicate (s.size + 1) ([] : List Int) = endsT o s 0 := by
  apply List.ext_getElem?
  intro j
  by_cases hj : j < s.size + 1
  · rw [endsT_get o s 0 hj, List.getElem?_replicate, if_pos hj]
    by_cases hjn : s.size ≤ j + 0
    · rw [if_pos hjn, show s.size - j = 0 by omega]; rfl
    · rw [if_neg hjn]
  · rw [List.getElem?_eq_none (by simp; omega), List.getElem?_eq_none (by rw [endsT_len]; omega)]
theorem endsT_none (o : Option AM) (s : ByteArray) {n : Nat} (h : n + 1 ≤ s.size) : (endsT o s n).set (s.size - (n + 1)) [] = endsT o s n :=
  set_same (by rw [endsT_get o s n (by omega), if_neg (by omega)])
theorem wayL_none (o : Option AM) (s : ByteArray) {n : Nat} (h : n + 1 ≤ s.size) : (wayL o s n).set (s.size - (n + 1)) 0 = wayL o s n :=
  set_same (by rw [wayL_get o s n (by omega), if_neg (by omega)])

set_option maxHeartbeats 8000000 in
theorem refends_c {S : Nat → Prop} {H : Heap} {v : Value} {o : Option AM} {D : DM} {s : ByteArray} (hS : ∀ k, S k → k < H.size) (hv : DfaV S H v D) (hB : Both o D) (hs : s.size ≤ 1048576) :
    FnOk Try.prog 65 #[v, .string s] H fun v' H' => Agr (Old H) H H' ∧ ∃ nb wb, v' = .tuple #[.slice (some ⟨nb, 0, none⟩) (s.size + 1) (s.size + 1), .slice (some ⟨wb, 0, none⟩) (s.size + 1) (s.size + 1)] ∧
      SlD tRows (Old H') H' (some ⟨nb, 0, none⟩) (s.size + 1) (endsT o s s.size) ∧ SlD tI (Old H') H' (some ⟨wb, 0, none⟩) (s.size + 1) (wayL o s s.size) := by
  have hl := hv.len
  have hok := hB.ok
  have hn1 := hok.n1
  refine FnOk.of_vc Try.func65 rfl (Try.call65 _) ?_
  (conv => whnf); refine dfa_box hv fun ra rc na nc fa fc he a1 a2 a3 => ?_
  subst he
  intro pa H1 hpa hs1 hb1 ha1
  have st1 := (St.nil H).box hpa hs1 hb1 ha1
  (conv => whnf); refine dfa_load (st1.blk 0 rfl) hl trivial (a1.frame (st1.old.mono hS)) (a2.frame (st1.old.mono hS)) (a3.frame (st1.old.mono hS)) fun v3 hv3 => ?_
  (conv => whnf); refine VCall.mk (useful_c (fun k hk => old_lt st1.old (hS k hk)) hv3 hok) ?_
  rintro v4 H4 ⟨ha4, hs4, ua, uc, rfl, hu⟩
  have st4 := st1.call ha4
  have hB0 := st4.blk 0 rfl
  have e4 : Agr (Old H) H H4 := st4.old
  have a1 := a1.frame (e4.mono hS)
  have a2 := a2.frame (e4.mono hS)
  have a3 := a3.frame (e4.mono hS)
  have hS4 : ∀ k, S k → Old H4 k := fun k hk => old_lt e4 (hS k hk)
  have up : ∀ {H' : Heap}, Agr (Old H4) H4 H' → ∀ k, S k → k < H'.size := fun h k hk => old_lt h (hS4 k hk)
  have hu := hu.mono (S' := Old H4) fun k hk => hk.2
  (conv => whnf); rw [w64 (x := (s.size : Int) + 1) (by omega) (by omega)]
  (conv => whnf); refine vmake1 sl23 rfl (by omega) (by omega) (by omega) (by omega) ?_
  intro nb H5 hnb hs5 hb5 ha5
  rw [show ((s.size : Int) + 1).toNat = s.size + 1 by omega] at hb5
  rw [show ((s.size : Int) + 1).toNat = s.size + 1 by omega]
  have t5 := (St.nil H4).tabNew tI 3 hnb hs5 hb5 ha5
  (conv => whnf); rw [w64 (x := (s.size : Int) + 1) (by omega) (by omega)]
  (conv => whnf); refine vmake1 sl35 rfl (by omega) (by omega) (by omega) (by omega) ?_
  intro wb H6 hwb hs6 hb6 ha6
  rw [show ((s.size : Int) + 1).toNat = s.size + 1 by omega] at hb6
  rw [show ((s.size : Int) + 1).toNat = s.size + 1 by omega]
  have t6 := t5.new (T := tI) (n := s.size + 1) (xs := List.replicate (s.size + 1) 0) hwb hs6 hb6 ha6 (reps_of_ones (by simp) fun i v x h1 h2 => by
    rw [List.getElem?_replicate] at h1 h2
    split at h1
    · rename_i hi; rw [if_pos hi] at h2; cases h1; cases h2; exact ⟨rfl, inI64 (x := 0) (by decide)⟩
    · cases h1) (by simp) (by unfold maxLen; omega)
  (conv => whnf); refine ix sl35 (by omega) (by omega) ?_
  (conv => whnf); refine st1O (x := 1) t6 1 ct3 rfl rfl (j := s.size) (by omega) (by simp) rfl (fun _ _ => ⟨rfl, inI64 (x := 1) (by decide)⟩) fun H7 t7 => ?_
  rw [wayL_zero o s, endsT_zero o s] at t7
  (conv => whnf); rw [w64 (x := (s.size : Int) - 1) (by omega) (by omega)]
  (conv => whnf)
  refine VLoop.mk [9] (fun n : Nat => [.int .i64 ((s.size : Int) - 1 - n)]) (fun n H8 => n ≤ s.size ∧ ∃ vs, St H4 H8 [pT tI 3 35 nb vs (endsT o s n), pS tI 3 (some ⟨wb, 0, none⟩) (s.size + 1) (s.size + 1) (wayL o s n)]) (fun n _ => s.size - n) ?_ ?_
  · (conv => whnf)
    exact ⟨0, by simp, by omega, _, t7⟩
  · rintro n H8 junk ⟨hn, vs, st⟩
    (conv => whnf); refine VIte.mk (fun h => ?_) (fun h => ?_) <;> simp only [decide_eq_true_eq, decide_eq_false_iff_not] at h
    · obtain ⟨i, hi⟩ : ∃ i : Nat, i = s.size - (n + 1) := ⟨_, rfl⟩
      have hii : (s.size : Int) - 1 - (n : Int) = (i : Int) := by omega
      have hnS : n + 1 ≤ s.size := by omega
      have hen := endsT_none o s hnS
      have hwn := wayL_none o s hnS
      rw [← hi] at hen hwn
      rw [hii]
      (conv => whnf)
      refine VLoop.mk [10, 11] (fun x : Nat × Int × List Int × Nat => match x with | (m, q, _, _) => [.int .i64 q, .int .i64 ((s.size - m : Nat) : Int)])
        (fun x H9 => x.1 ≤ n + 1 ∧ (0 ≤ x.2.1 ∧ x.2.1 < D.next.length) ∧ x.2.2.2 ≤ 2 ∧ x.2.2.1 ++ endsI o s x.1 x.2.1 = endsI o s (n + 1) 0 ∧ min 2 (x.2.2.2 + sumW o s (endsF o s x.1 x.2.1)) = (wy o s (n + 1)).2 ∧
          ∃ vs, St H4 H9 [pT tI 3 35 nb vs ((endsT o s n).set i x.2.2.1), pS tI 3 (some ⟨wb, 0, none⟩) (s.size + 1) (s.size + 1) ((wayL o s n).set i (x.2.2.2 : Int))]) (fun x _ => x.1) ?_ ?_
      · (conv => whnf)
        refine ⟨(n + 1, 0, [], 0), by simp only; rw [← hi], Nat.le_refl _, ⟨Int.le_refl _, by simp only; omega⟩, by simp, rfl, by simp only; rw [Nat.zero_add, wy_at o s hnS], vs, ?_⟩
        simp only [Int.natCast_zero]
        rw [hen, hwn]
        exact st
      · rintro ⟨m, q, E, y⟩ H9 junk9 ⟨hm, ⟨q0, q1⟩, hy, hE, hY, vs9, st9⟩
        simp only at hm q0 q1 hy hE hY st9
        have e9 := st9.old
        have hb9 := hB0.agr e9 hB0.lt
        have hal := useful_at (D := D) (q := q.toNat) (by omega)
        rw [Int.toNat_of_nonneg q0] at hal
        have hsetl : ((wayL o s n).set i (y : Int)).length = s.size + 1 := by rw [List.length_set, wayL_len]
        -- behind the inner loop
        have out : ∀ {H' : Heap} {w}, endsF o s m q = [] → St H4 H' [pT tI 3 35 nb w ((endsT o s n).set i E), pS tI 3 (some ⟨wb, 0, none⟩) (s.size + 1) (s.size + 1) ((wayL o s n).set i (y : Int))] →
            St H4 H' [pT tI 3 35 nb w (endsT o s (n + 1)), pS tI 3 (some ⟨wb, 0, none⟩) (s.size + 1) (s.size + 1) (wayL o s (n + 1))] := fun h0 h1 => by
          have k1 : E = endsI o s (n + 1) 0 := by rw [← hE]; unfold endsI; rw [h0]; simp
          have k2 : y = (wy o s (n + 1)).2 := by rw [← hY, h0]; simp [sumW]; omega
          rw [← endsT_put o s hnS, ← wayL_put o s hnS, ← hi, ← k1, ← k2]
          exact h1
        by_cases hm0 : m = 0
        · subst hm0
          have d1 : decide (((s.size - 0 : Nat) : Int) < (s.size : Int)) = false := decide_eq_false (by omega)
          (conv => whnf); rw [d1]
          (conv => whnf); rw [w64 (x := (i : Int) - 1) (by omega) (by omega)]
          exact ⟨rfl, n + 1, by rw [show (s.size : Int) - 1 - ((n + 1 : Nat) : Int) = (i : Int) - 1 by omega], ⟨hnS, _, out rfl st9⟩, by omega⟩
        · obtain ⟨m, rfl⟩ : ∃ k, m = k + 1 := ⟨m - 1, by omega⟩
          have d1 : decide (((s.size - (m + 1) : Nat) : Int) < (s.size : Int)) = true := decide_eq_true (by omega)
          (conv => whnf); rw [d1]
          (conv => whnf); refine ixr (i := q.toNat) sl24 (hu.frame e9) hal (by omega) ?_
          rintro b5 o5 cs5 hSb5 hcells5 rfl
          (conv => whnf); refine ld1 ct4 hcells5.one trivial ?_
          cases hx : aliveD D q with
          | false =>
            (conv => whnf); rw [w64 (x := (i : Int) - 1) (by omega) (by omega)]
            exact ⟨rfl, n + 1, by rw [show (s.size : Int) - 1 - ((n + 1 : Nat) : Int) = (i : Int) - 1 by omega], ⟨hnS, _, out (dead_ends hB s _ q q0 q1 hx) st9⟩, by omega⟩
          | true =>
            obtain ⟨b, hb⟩ := get_byte (s := s) (k := s.size - (m + 1)) (by omega)
            have hbb := byteB_at hb
            have hb256 := byteB_lt s m
            have hqr := stepD_range hok q0 q1 hb256
            have hst := hB.step q _ hb256
            have eF : endsF o s (m + 1) q = (if finD D (stepD D q (byteB s m)) then [s.size - m] else []) ++ endsF o s m (stepD D q (byteB s m)) := by
              rw [endsF, hst, hB.fin]
            have sF := sumW_succ o s (n := m) (by omega) q
            rw [hst, hB.fin] at sF
            rw [hbb] at hqr eF sF
            have g0 := fin_at hok hqr.1 hqr.2
            (conv => whnf); refine VSeq.run ?_
            (conv => whnf); refine VDraw.held (Old H9) 6 (sq [0,1,2,3,4] (.f 5 (.f 6 .e))) rfl (by kernel_rfl) ?_
            (conv => whnf); refine dfa_load hb9 hl hb9.lt (a1.frame (e9.mono hS4)) (a2.frame (e9.mono hS4)) (a3.frame (e9.mono hS4)) fun v9 hv9 => ?_
            (conv => whnf); refine vidxs strT rfl hb ?_
            (conv => whnf); refine pures (refstep_p (up e9) hv9 hok (UInt8.toNat_lt b)) fun H10 ha10 => ?_
            refine ⟨ha10, ?_⟩
            have st10 := st9.call ha10
            have e10 := st10.old
            have hb10 := hB0.agr e10 hB0.lt
            generalize stepD D q b.toNat = q' at *
            (conv => whnf); refine VC.fa fl37_3 ?_
            (conv => whnf); refine ld1 ct24 (by rw [hb10.cell, Nat.zero_add]; exact dfaL_258 hl) trivial ?_
            (conv => whnf); refine ixr (i := q'.toNat) sl24 (a3.frame (e10.mono hS4)) g0 (by omega) ?_
            rintro b6 o6 cs6 hSb6 hcells6 rfl
            (conv => whnf); refine ld1 ct4 hcells6.one trivial ?_
            cases hfi : finD D q' with
            | false =>
              rw [hfi] at eF sF
              simp only [Bool.false_eq_true, if_false, List.nil_append, Nat.zero_add] at eF sF
              (conv => whnf); rw [w64 (x := ((s.size - (m + 1) : Nat) : Int) + 1) (by omega) (by omega)]
              refine ⟨rfl, (m, q', E, y), ?_, ⟨by simp only; omega, hqr, hy, ?_, ?_, _, st10⟩, by simp only; omega⟩
              · simp only
                rw [show ((s.size - (m + 1) : Nat) : Int) + 1 = ((s.size - m : Nat) : Int) by omega]
              · simp only; unfold endsI at hE ⊢; rw [← hE, eF]
              · simp only; rw [← hY, sF]
            | true =>
              rw [hfi] at eF sF
              simp only [if_true, List.singleton_append] at eF sF
              have hrow : ((endsT o s n).set i E)[i]? = some E := List.getElem?_set_self (by rw [endsT_len]; omega)
              have hEl : E.length ≤ n + 1 := by
                have h1 := congrArg List.length hE
                have h2 := endsF_len o s (n + 1) 0
                simp only [List.length_append, endsI, List.length_map] at h1
                omega
              obtain ⟨wa, wc, hvi, -⟩ := st10.row 0 rfl hrow
              (conv => whnf); refine ix sl23 (by omega) (by omega) ?_
              (conv => whnf); refine ld1 ct35 (st10.tcell 0 rfl hvi (by rw [Nat.zero_add, Nat.mul_one, Int.toNat_natCast])) trivial ?_
              (conv => whnf); rw [w64 (x := ((s.size - (m + 1) : Nat) : Int) + 1) (by omega) (by omega)]
              rw [show ((s.size - (m + 1) : Nat) : Int) + 1 = ((s.size - m : Nat) : Int) by omega]
              (conv => whnf); refine vbuild1 sl35 [.int .i64 ((s.size - m : Nat) : Int)] rfl rfl (by decide) (by decide) ?_
              intro q11 H11 hq11 hs11 hb11 ha11
              (conv => whnf); refine appT (st10.skip hq11 ha11) 0 sl35 rfl hvi hrow hb11 ⟨rfl, inI64 (by omega)⟩ rfl (by omega) (by decide) fun wa' wc' H12 mid => ?_
              (conv => whnf); refine ix sl23 (by omega) (by omega) ?_
              (conv => whnf); refine stT mid ct35 (by rw [Nat.zero_add, Nat.mul_one, Int.toNat_natCast]) fun H13 st13 => ?_
              rw [List.set_set] at st13
              have g1 : ((wayL o s n).set i (y : Int))[i]? = some (y : Int) := List.getElem?_set_self (by rw [wayL_len]; omega)
              have g2 : ((wayL o s n).set i (y : Int))[s.size - m]? = some (((wy o s m).2 : Nat) : Int) := by
                rw [List.getElem?_set_ne (by omega), wayL_get o s n (by omega), if_pos (by omega), show s.size - (s.size - m) = m by omega]
              have hw2 := (wy_le o s m).2
              (conv => whnf); refine VDraw.tail 14 (sq [0,1,2,3,4,5,6,7,8,9,10,11,12,13] (.f 14 .e)) rfl (by kernel_rfl) ?_
              (conv => whnf); refine ixO sl35 st13 1 rfl g1 rfl ?_
              rintro b14 o14 c14 _ hc14 ⟨rfl, -⟩
              (conv => whnf); refine ld1 ct3 hc14.one trivial ?_
              (conv => whnf); rw [w64 (x := ((s.size - (m + 1) : Nat) : Int) + 1) (by omega) (by omega)]
              rw [show ((s.size - (m + 1) : Nat) : Int) + 1 = ((s.size - m : Nat) : Int) by omega]
              (conv => whnf); refine ixO sl35 st13 1 rfl g2 rfl ?_
              rintro b15 o15 c15 _ hc15 ⟨rfl, -⟩
              (conv => whnf); refine ld1 ct3 hc15.one trivial ?_
              (conv => whnf); rw [w64 (x := (y : Int) + (((wy o s m).2 : Nat) : Int)) (by omega) (by omega)]
              (conv => whnf); refine vmin2 ?_
              have hsum : (if (y : Int) + (((wy o s m).2 : Nat) : Int) < 2 then (y : Int) + (((wy o s m).2 : Nat) : Int) else 2) = ((min 2 (y + (wy o s m).2) : Nat) : Int) := by
                split <;> omega
              rw [hsum]
              (conv => whnf); refine ix sl35 (by omega) (by omega) ?_
              (conv => whnf); refine st1O (x := ((min 2 (y + (wy o s m).2) : Nat) : Int)) st13 1 ct3 rfl rfl (by rw [Nat.zero_add, Nat.mul_one, Int.toNat_natCast]) (by rw [hsetl]; omega) rfl (fun _ _ => ⟨rfl, inI64 (by omega)⟩) fun H16 st16 => ?_
              rw [List.set_set] at st16
              (conv => whnf); rw [w64 (x := ((s.size - (m + 1) : Nat) : Int) + 1) (by omega) (by omega)]
              refine ⟨rfl, (m, q', E ++ [((s.size - m : Nat) : Int)], min 2 (y + (wy o s m).2)), ?_, ⟨by simp only; omega, hqr, by simp only; omega, ?_, ?_, _, st16⟩, by simp only; omega⟩
              · simp only
                rw [show ((s.size - (m + 1) : Nat) : Int) + 1 = ((s.size - m : Nat) : Int) by omega]
              · simp only; unfold endsI at hE ⊢; rw [← hE, eF]; simp
              · simp only; rw [← hY, sF]; omega
    · obtain rfl : n = s.size := by omega
      have el := endsT_len o s s.size
      have wl := wayL_len o s s.size
      have k1 := st.tview 0 rfl (by rw [el]; unfold maxLen; omega)
      rw [el] at k1
      have k2 := st.view 1 rfl
      (conv => whnf)
      exact ⟨e4.trans (st.old.mono fun k hk => old_lt e4 hk), nb, wb, rfl, k1, k2⟩
end Go.Proofs.Ytpnnedkpbmilkaa
