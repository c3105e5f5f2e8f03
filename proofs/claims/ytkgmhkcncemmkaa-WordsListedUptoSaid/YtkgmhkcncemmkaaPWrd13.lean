/- louperef08.Nth: the walk. -/
import Derived.Test.YtkgmhkcncemmkaaPWrd12
set_option linter.unusedVariables false
set_option linter.unusedSimpArgs false
set_option maxRecDepth 100000
namespace Go.Proofs.Ytkgmhkcncemmkaa
open Go.VC
attribute [local irreducible] mRun gRun atRun

/-- Bytes as a text. -/
def txt (bs : List Nat) : ByteArray := ⟨(bs.map UInt8.ofNat).toArray⟩
theorem txt_size (bs : List Nat) : (txt bs).size = bs.length := by simp [txt, ByteArray.size]
theorem txt_snoc (bs : List Nat) (b : Nat) : txt bs ++ txt [b] = txt (bs ++ [b]) := by
  apply text_inj
  simp [txt]
theorem txt_nil : txt [] = ⟨#[]⟩ := rfl
attribute [local irreducible] txt

set_option maxHeartbeats 8000000 in
theorem refnth_p {S : Nat → Prop} {H : Heap} {v : Value} {o : Option AM} {D : DM} (n i : Int) (hi63 : i ≤ 9223372036854775807) (hS : ∀ k, S k → k < H.size) (hv : DfaV S H v D) (hB : Both o D) (hst : StepIn o) :
    Pure Try.prog 25 #[v, .int .i64 n, .int .i64 i] H (.tuple #[.string (nthR o n i).1, .int .i64 (nthR o n i).2]) := by
  have hl := hv.len
  have hok := hB.ok
  have hn1 := hok.n1
  have hn2 := hok.n2
  have hN := hB.n
  refine FnOk.of_vc Try.func25 rfl (Try.call25 _) ?_
  (conv => whnf); refine dfa_box hv fun ra rc na nc fa fc he a1 a2 a3 => ?_
  subst he
  intro pa H1 hpa hs1 hb1 ha1
  have st1 := (St.nil H).box hpa hs1 hb1 ha1
  by_cases h1 : n < 0
  · have d1 : decide (n < 0) = true := decide_eq_true h1
    (conv => whnf); rw [d1]
    (conv => whnf)
    exact ⟨by unfold nthR; rw [if_pos (.inl h1)], st1.old⟩
  have d1 : decide (n < 0) = false := decide_eq_false h1
  (conv => whnf); rw [d1]
  by_cases h2 : 64 < n
  · have d2 : decide (64 < n) = true := decide_eq_true h2
    (conv => whnf); rw [d2]
    (conv => whnf)
    exact ⟨by unfold nthR; rw [if_pos (.inr (.inl h2))], st1.old⟩
  have d2 : decide (64 < n) = false := decide_eq_false h2
  (conv => whnf); rw [d2]
  by_cases h3 : i < 0
  · have d3 : decide (i < 0) = true := decide_eq_true h3
    (conv => whnf); rw [d3]
    (conv => whnf)
    exact ⟨by unfold nthR; rw [if_pos (.inr (.inr h3))], st1.old⟩
  have d3 : decide (i < 0) = false := decide_eq_false h3
  (conv => whnf); rw [d3]
  obtain ⟨m, rfl⟩ := Int.eq_ofNat_of_zero_le (Int.not_lt.1 h1)
  obtain ⟨i0, rfl⟩ := Int.eq_ofNat_of_zero_le (Int.not_lt.1 h3)
  have hR : nthR o (m : Int) (i0 : Int) = if wN o m 0 ≤ i0 then (⟨#[]⟩, 3) else (txt (nthL o m 0 i0), 0) := by
    unfold nthR txt
    rw [if_neg (by omega), Int.toNat_natCast, Int.toNat_natCast]
  (conv => whnf); refine dfa_load (st1.blk 0 rfl) hl trivial (a1.frame (st1.old.mono hS)) (a2.frame (st1.old.mono hS)) (a3.frame (st1.old.mono hS)) fun v3 hv3 => ?_
  (conv => whnf); refine VCall.mk (paths_c m (by omega) (fun k hk => old_lt st1.old (hS k hk)) hv3 hB) ?_
  rintro _ H2 ⟨ha2, nb, rfl, hrows⟩
  have st2 := st1.call ha2
  have pl := pathL_len o m (m + 1)
  have hget : ∀ k, k ≤ m → (pathL o m (m + 1))[k]? = some (pathR o k) := fun k hk => by rw [pathL_get o m (m + 1) (by omega), if_pos (by omega)]
  (conv => whnf); refine ixrn (i := m) sl23 hrows pl.symm (hget m (Nat.le_refl _)) rfl ?_
  rintro b3 o3 c3 hS3 hc3 ⟨xa, xc, rfl, hx⟩
  (conv => whnf); refine ld1 ct36 hc3.one trivial ?_
  (conv => whnf); refine ixr (i := 0) sl36 hx (pathR_get o m (by omega)) rfl ?_
  rintro b4 o4 c4 hS4 hc4 ⟨rfl, -⟩
  (conv => whnf); refine ld1 ct3 hc4.one trivial ?_
  have hq0 : wN o m ((0 : Nat) : Int) = wN o m 0 := rfl
  rw [hq0]
  have hcap : ∀ x, x < TM → capI x = (x : Int) := fun x hx => by unfold capI; rw [if_pos hx]
  have hcap' : ∀ x, ¬ x < TM → capI x = -1 := fun x hx => by unfold capI; rw [if_neg hx]
  by_cases h4 : wN o m 0 ≤ i0
  · have h5 : wN o m 0 < TM := by unfold TM; omega
    rw [hcap _ h5]
    (conv => whnf); refine ixrn (i := m) sl23 hrows pl.symm (hget m (Nat.le_refl _)) rfl ?_
    rintro b3 o3 c3 hS3 hc3 ⟨xa, xc, rfl, hx⟩
    (conv => whnf); refine ld1 ct36 hc3.one trivial ?_
    (conv => whnf); refine ixr (i := 0) sl36 hx (pathR_get o m (by omega)) rfl ?_
    rintro b4 o4 c4 hS4 hc4 ⟨rfl, -⟩
    (conv => whnf); refine ld1 ct3 hc4.one trivial ?_
    rw [hq0, hcap _ h5]
    have d5 : decide (((wN o m 0 : Nat) : Int) ≤ (i0 : Int)) = true := decide_eq_true (by omega)
    (conv => whnf); rw [d5]
    (conv => whnf)
    exact ⟨by rw [hR, if_pos h4], st2.old⟩
  have hRn := hR.trans (if_neg h4)
  rw [hRn]
  have step : ∀ {H' : Heap}, Agr (Old H2) H2 H' → Agr (Old H) H H' := fun h => st2.old.trans (h.mono fun k hk => st2.up hk)
  by_cases hT : wN o m 0 < TM
  case' pos =>
    rw [hcap _ hT]
    (conv => whnf); refine ixrn (i := m) sl23 hrows pl.symm (hget m (Nat.le_refl _)) rfl ?_
    rintro b3 o3 c3 hS3 hc3 ⟨xa, xc, rfl, hx⟩
    (conv => whnf); refine ld1 ct36 hc3.one trivial ?_
    (conv => whnf); refine ixr (i := 0) sl36 hx (pathR_get o m (by omega)) rfl ?_
    rintro b4 o4 c4 hS4 hc4 ⟨rfl, -⟩
    (conv => whnf); refine ld1 ct3 hc4.one trivial ?_
    rw [hq0, hcap _ hT]
    have d5 : decide (((wN o m 0 : Nat) : Int) ≤ (i0 : Int)) = false := decide_eq_false (by omega)
    (conv => whnf); rw [d5]
  case' neg => rw [hcap' _ hT]
  all_goals
    (conv => whnf)
    refine VLoop.mk [2, 9, 10] (fun x : Nat × Nat × Nat × List Nat => match x with | (k, q, i, bs) => [.int .i64 (i : Int), .int .i64 (q : Int), .string (txt bs)])
      (fun x H3 => x.1 ≤ m ∧ x.2.1 < stN o ∧ x.2.2.1 ≤ i0 ∧ x.2.2.1 < wN o x.1 (x.2.1 : Int) ∧ x.2.2.2.length + x.1 = m ∧ x.2.2.2 ++ nthL o x.1 (x.2.1 : Int) x.2.2.1 = nthL o m 0 i0 ∧ St H2 H3 []) (fun x _ => x.1) ?_ ?_
    · (conv => whnf)
      exact ⟨(m, 0, i0, []), by simp only [txt_nil]; rfl, Nat.le_refl _, by simp only; omega, Nat.le_refl _, by simp only; exact Nat.not_le.1 h4, by simp, rfl, St.nil H2⟩
    · rintro ⟨k, q, i, bs⟩ H3 junk ⟨hk, hq, hi, hiw, hbl, hnl, st3⟩
      simp only at hk hq hi hiw hbl hnl st3
      have hts := txt_size bs
      (conv => whnf); refine VIte.mk (fun hz => ?_) (fun hz => ?_) <;> simp only [decide_eq_true_eq, decide_eq_false_iff_not] at hz
      · obtain ⟨k, rfl⟩ : ∃ k', k = k' + 1 := ⟨k - 1, by omega⟩
        have hp5 := pick_lt o k (q : Int) 255 i
        have hpi := pick_in o k (q : Int) 255 i (by rw [tail_all]; exact hiw)
        have hpl := pick_le o k (q : Int) 255 i
        have hbk : m - bs.length - 1 = k := by omega
        have up : ∀ {H' : Heap}, Agr (Old H2) H2 H' → ∀ k, S k → k < H'.size := fun h k hk => old_lt (step h) (hS k hk)
        have hsz : ((txt bs).size : Int) = ((bs.length : Nat) : Int) := by rw [hts]
        (conv => whnf); refine VSeq.cut (α := Unit) [2, 11] (fun _ => [.int .i64 ((pickG o k (q : Int) 255 i).2 : Nat), .int .i64 ((pickG o k (q : Int) 255 i).1 : Nat)]) (fun _ H4 => St H2 H4 []) ?_ fun _ H4 junk4 st4 => ?_
        · (conv => whnf)
          refine VLoop.mk [2, 11] (fun x : Nat × Nat => match x with | (b, i') => [.int .i64 (i' : Int), .int .i64 (b : Int)])
            (fun x H4 => x.1 ≤ 255 ∧ x.2 ≤ i ∧ pickG o k (q : Int) (255 - x.1) x.2 = pickG o k (q : Int) 255 i ∧ St H2 H4 []) (fun x _ => 255 - x.1) ?_ ?_
          · (conv => whnf)
            exact ⟨(0, i), rfl, by simp, Nat.le_refl _, rfl, st3⟩
          · rintro ⟨b, i'⟩ H4 junk4 ⟨hb, hi', hpk, st4⟩
            simp only at hb hi' hpk st4
            (conv => whnf); refine VIte.mk (fun hz2 => ?_) (fun hz2 => ?_) <;> simp only [decide_eq_true_eq, decide_eq_false_iff_not] at hz2
            · have e4 := step st4.old
              have hb4 := (st2.blk 0 rfl).agr st4.old (st2.blk 0 rfl).lt
              (conv => whnf); refine VDraw.held (Old H4) 15 (sq [0,1,2,3,4,5,6,7,8,9,10,11] (.f 12 (sq [13,14] (.f 15 .e)))) rfl (by kernel_rfl) ?_
              (conv => whnf); rw [hsz, w64 (x := (m : Int) - ((bs.length : Nat) : Int)) (by omega) (by omega)]
              (conv => whnf); rw [w64 (x := (m : Int) - ((bs.length : Nat) : Int) - 1) (by omega) (by omega)]
              (conv => whnf); refine ixrn (i := k) sl23 (hrows.frame st4.old) pl.symm (hget k (by omega)) (by omega) ?_
              rintro b5 o5 c5 hS5 hc5 ⟨xa, xc, rfl, hx⟩
              (conv => whnf); refine ld1 ct36 hc5.one (old_lt st4.old hS5) ?_
              (conv => whnf); refine dfa_load hb4 hl hb4.lt (a1.frame (e4.mono hS)) (a2.frame (e4.mono hS)) (a3.frame (e4.mono hS)) fun v10 hv10 => ?_
              (conv => whnf); rw [w8 (x := (b : Int)) (by omega) (by omega)]
              (conv => whnf); refine pures (refstep_p (up st4.old) hv10 hok (show b < 256 by omega)) fun H8 ha8 => ?_
              have st8 := st4.call ha8
              refine ⟨ha8, ?_⟩
              have hsr := hst (q : Int) b (by omega) (by omega) (by omega)
              rw [← hB.step (q : Int) b (by omega)]
              obtain ⟨t, ht⟩ := Int.eq_ofNat_of_zero_le hsr.1
              rw [ht] at hsr ⊢
              (conv => whnf); refine ixr (i := t) sl36 (hx.frame (ha8.mono fun k hk => old_lt st4.old hk)) (pathR_get o k (by omega)) rfl ?_
              rintro b11 o11 c11 hO11 hc11 ⟨rfl, -⟩
              (conv => whnf); refine ld1 ct3 hc11.one (old_lt st4.old hO11) ?_
              have hpickT : i' < wN o k (t : Int) → pickG o k (q : Int) 255 i = (b, i') := fun hlt => by
                rw [← hpk]
                obtain ⟨m', hm⟩ : ∃ m', 255 - b = m' + 1 := ⟨254 - b, by omega⟩
                rw [hm]
                show (if _ then _ else _) = _
                rw [show 255 - (m' + 1) = b by omega, ht, if_pos hlt]
              by_cases hT2 : wN o k (t : Int) < TM
              · rw [hcap _ hT2]
                have d6 : decide (((wN o k (t : Int) : Nat) : Int) < 0) = false := decide_eq_false (by omega)
                (conv => whnf); try rw [d6]
                by_cases hlt : i' < wN o k (t : Int)
                · have d7 : decide ((i' : Int) < ((wN o k (t : Int) : Nat) : Int)) = true := decide_eq_true (by omega)
                  (conv => whnf); rw [d7]
                  (conv => whnf)
                  exact ⟨rfl, (), by rw [hpickT hlt], st8⟩
                · have d7 : decide ((i' : Int) < ((wN o k (t : Int) : Nat) : Int)) = false := decide_eq_false (by omega)
                  (conv => whnf); rw [d7]
                  have e1 : pickG o k (q : Int) (255 - b) i' = pickG o k (q : Int) (255 - (b + 1)) (i' - wN o k (t : Int)) := by
                    obtain ⟨m', hm⟩ : ∃ m', 255 - b = m' + 1 := ⟨254 - b, by omega⟩
                    rw [hm, show 255 - (b + 1) = m' by omega]
                    show (if _ then _ else _) = _
                    rw [show 255 - (m' + 1) = b by omega, ht, if_neg hlt]
                  (conv => whnf); rw [w64 (x := (i' : Int) - ((wN o k (t : Int) : Nat) : Int)) (by omega) (by omega), ← Int.natCast_sub (Nat.not_lt.1 hlt)]
                  (conv => whnf); rw [w64 (x := (b : Int) + 1) (by omega) (by omega)]
                  exact ⟨rfl, (b + 1, i' - wN o k (t : Int)), by simp, ⟨by simp only; omega, by simp only; omega, by simp only; rw [← e1, hpk], st8⟩, by simp only; omega⟩
              · rw [hcap' _ hT2]
                have hlt : i' < wN o k (t : Int) := by unfold TM at hT2; omega
                (conv => whnf)
                exact ⟨rfl, (), by rw [hpickT hlt], st8⟩
            · obtain rfl : b = 255 := by omega
              (conv => whnf)
              exact ⟨rfl, (), by rw [← hpk]; rfl, st4⟩
        · generalize hpg : pickG o k (q : Int) 255 i = bi at *
          obtain ⟨b, i'⟩ := bi
          simp only at hp5 hpi hpl
          have e4 := step st4.old
          have hb4 := (st2.blk 0 rfl).agr st4.old (st2.blk 0 rfl).lt
          (conv => whnf); refine dfa_load hb4 hl trivial (a1.frame (e4.mono hS)) (a2.frame (e4.mono hS)) (a3.frame (e4.mono hS)) fun v10 hv10 => ?_
          (conv => whnf); rw [w8 (x := (b : Int)) (by omega) (by omega)]
          (conv => whnf); refine pures (refstep_p (up st4.old) hv10 hok (show b < 256 by omega)) fun H8 ha8 => ?_
          have st8 := st4.call ha8
          have hsr := hst (q : Int) b (by omega) (by omega) (by omega)
          rw [← hB.step (q : Int) b (by omega)]
          obtain ⟨t, ht⟩ := Int.eq_ofNat_of_zero_le hsr.1
          rw [ht] at hsr hpi ⊢
          (conv => whnf); rw [w8 (x := (b : Int)) (by omega) (by omega)]
          (conv => whnf); refine vbuild1 sl48 [.int .u8 (b : Int)] rfl rfl (by decide) (by decide) ?_
          intro q9 H9 hq9 hs9 hb9 ha9
          have st9 := st8.skip hq9 ha9
          (conv => whnf); refine vb2s [b] rfl rfl rfl (fun j x hx => by
            have hj : j = 0 := by have := (List.getElem?_eq_some_iff.1 hx).1; simpa using this
            subst hj
            cases hx
            rw [hb9.cell]; rfl) rfl ?_
          have e : (⟨([b].map UInt8.ofNat).toArray⟩ : ByteArray) = txt [b] := by unfold txt; rfl
          rw [e]
          (conv => whnf); refine vcat (a := txt bs) (b := txt [b]) (by rw [hts, txt_size]; simp; unfold maxLen; omega) ?_
          rw [txt_snoc]
          (conv => whnf)
          have hnl' : bs ++ (b :: nthL o k (t : Int) i') = nthL o m 0 i0 := by
            rw [← hnl, nthL, hpg]
            simp only [ht]
          exact ⟨rfl, (k, t, i', bs ++ [b]), rfl, ⟨by simp only; omega, by simp only; omega, by simp only; omega, hpi, by simp; omega, by simp only; rw [← hnl']; simp, st9⟩, by simp⟩
      · obtain rfl : k = 0 := by omega
        have hbs : bs = nthL o m 0 i0 := by rw [← hnl, nthL, List.append_nil]
        (conv => whnf)
        exact ⟨by rw [hbs], step st3.old⟩
end Go.Proofs.Ytkgmhkcncemmkaa
