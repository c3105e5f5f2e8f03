/- The law WordsTwo: its walk. -/
import Derived.Test.YtkgmhkcncemmkaaPWrd9
set_option linter.unusedVariables false
set_option linter.unusedSimpArgs false
set_option maxRecDepth 100000
namespace Go.VC
/-- Slices of an array of the call's own. -/
theorem vcutAH {P : Program} {t len e sz b : Nat} {k : IntKind} {h : Nat} {S : Nat → Prop} {H : Heap} {K : Value → Prop} (ht : ArrT P t len e sz) (h1 : h ≤ len)
    (hk : ∀ c, K (.slice (some ⟨b, 0, none⟩) h c)) : VDet P (Instr.sliceAt t (.pointer (some ⟨b, 0, none⟩)) none (some (.int k (h : Int))) none) S H K := by
  have hs := ht.size
  cases hi : P.info? e with
  | none => rw [hi] at hs; cases hs
  | some inf =>
    rw [hi] at hs
    have hs : inf.size = sz := by simpa using hs
    refine VDet.mk _ (fun w _ => ?_) (hk len)
    simp [Instr.sliceAt, Instr.sureAddr, run_underlying ht.under, Instr.sliceBounds, Instr.sliceBound, asIntOf, h1, sizeOf, typeInfo, hi, hs, Addr.add_mid]
theorem vcutA {P : Program} {t len e sz b : Nat} {S : Nat → Prop} {H : Heap} {K : Value → Prop} (ht : ArrT P t len e sz)
    (hk : ∀ c, K (.slice (some ⟨b, 0, none⟩) len c)) : VDet P (Instr.sliceAt t (.pointer (some ⟨b, 0, none⟩)) none none none) S H K := by
  have hs := ht.size
  cases hi : P.info? e with
  | none => rw [hi] at hs; cases hs
  | some inf =>
    rw [hi] at hs
    have hs : inf.size = sz := by simpa using hs
    refine VDet.mk _ (fun w _ => ?_) (hk len)
    simp [Instr.sliceAt, Instr.sureAddr, run_underlying ht.under, Instr.sliceBounds, Instr.sliceBound, asIntOf, sizeOf, typeInfo, hi, hs, Addr.add_mid]
end Go.VC
namespace Go.Proofs.Ytkgmhkcncemmkaa
open Go.VC
attribute [local irreducible] mRun gRun atRun

theorem acc_one (o : Option AM) {b : Nat} (hb : b < 256) : acceptsM o ⟨([b].map UInt8.ofNat).toArray⟩ = finM o (stepM o 0 b) := by
  have e : (UInt8.ofNat b).toNat = b := by rw [UInt8.toNat_ofNat']; exact Nat.mod_eq_of_lt hb
  show finM o (stepM o 0 (UInt8.ofNat b).toNat) = _
  rw [e]
theorem acc_two (o : Option AM) {b c : Nat} (hb : b < 256) (hc : c < 256) : acceptsM o ⟨([b, c].map UInt8.ofNat).toArray⟩ = finM o (stepM o (stepM o 0 b) c) := by
  have e : (UInt8.ofNat b).toNat = b := by rw [UInt8.toNat_ofNat']; exact Nat.mod_eq_of_lt hb
  have f : (UInt8.ofNat c).toNat = c := by rw [UInt8.toNat_ofNat']; exact Nat.mod_eq_of_lt hc
  show finM o (stepM o (stepM o 0 (UInt8.ofNat b).toNat) (UInt8.ofNat c).toNat) = _
  rw [e, f]
/-- The sum of the first values. -/
def sumU (f : Nat → Nat) (n : Nat) : Nat := ((List.range n).map f).sum
theorem sumU_succ (f : Nat → Nat) (n : Nat) : sumU f (n + 1) = sumU f n + f n := by
  unfold sumU
  rw [List.range_succ, List.map_append, List.sum_append]; simp
theorem sumU_le {f : Nat → Nat} {m : Nat} (h : ∀ k, f k ≤ m) : ∀ n, sumU f n ≤ n * m
  | 0 => by simp [sumU]
  | n + 1 => by
    rw [sumU_succ, Nat.succ_mul]
    exact Nat.add_le_add (sumU_le h n) (h n)
theorem wN_zero (o : Option AM) (q : Int) : wN o 0 q = if finM o q then 1 else 0 := rfl
theorem wN_zero_le (o : Option AM) (q : Int) : wN o 0 q ≤ 1 := by rw [wN_zero]; split <;> omega
theorem wN_one (o : Option AM) (q : Int) : wN o 1 q = sumU (fun b => wN o 0 (stepM o q b)) 256 := rfl
theorem wN_one_le (o : Option AM) (q : Int) : wN o 1 q ≤ 256 := by
  rw [wN_one]
  have := sumU_le (f := fun b => wN o 0 (stepM o q b)) (m := 1) (fun k => wN_zero_le _ _) 256
  omega
theorem wN_two (o : Option AM) (q : Int) : wN o 2 q = sumU (fun b => wN o 1 (stepM o q b)) 256 := rfl
theorem wN_two_le (o : Option AM) (q : Int) : wN o 2 q ≤ 65536 := by
  rw [wN_two]
  have := sumU_le (f := fun b => wN o 1 (stepM o q b)) (m := 256) (fun k => wN_one_le _ _) 256
  omega

set_option maxHeartbeats 4000000 in
theorem wordsTwo_p (v : Value) (cells : List (BitVec 256)) (next : List (List Int)) (final : List Bool) (S : Nat → Prop) (H : Heap) (ht : TabIn S H v cells next final) :
    Pure Try.prog 5 #[v] H (.bool true) := by
  refine FnOk.of_vc Try.func5 rfl (Try.call5 _) ?_
  (conv => whnf); refine tab_box ht fun l hl hv => ?_
  intro p H1 hp hs1 hb1 ha1
  have st1 := (St.nil H).box hp hs1 hb1 ha1
  (conv => whnf); refine pures (speaks08_p H1) fun H3 ha3 => ?_
  have st3 := st1.call ha3
  (conv => whnf); refine tab_load hl hv (st3.blk 0 rfl) trivial ?_
  (conv => whnf); refine VCall.mk (auto08_c v cells next final S H3 (ht.frame st3.old)) ?_
  rintro va H4 ⟨ha4, hs4, hva⟩
  have st4 := st3.call ha4
  have hA4 := st4.old
  obtain ⟨ls, hc⟩ := cells_ok cells next final
  generalize hoe : autoOf cells next final = oa at *
  have hva4 : AutoV (Old H4) H4 va oa := hva.mono fun k hk => hk.2
  have up : ∀ {H' : Heap}, Agr (Old H4) H4 H' → ∀ k, Old H4 k → k < H'.size := fun h k hk => old_lt h hk
  (conv => whnf); refine valloc _ [.int .u8 0, .int .u8 0] rfl rfl ?_
  intro w H5 hw hs5 hb5 ha5
  have st5 := (St.nil H4).box hw hs5 hb5 ha5
  (conv => whnf)
  refine VLoop.mk [4, 5, 7] (fun x : Nat × Nat × Nat => match x with | (i, c0, c1) => [.int .i64 (sumU (fun b => wN oa 0 (stepM oa 0 b)) i : Nat), .int .i64 (sumU (fun b => wN oa 1 (stepM oa 0 b)) i : Nat), .int .i64 (i : Int)])
    (fun x H6 => x.1 ≤ 256 ∧ St H4 H6 [pB 47 w [.int .u8 (x.2.1 : Int), .int .u8 (x.2.2 : Int)]]) (fun x _ => 256 - x.1) ?_ ?_
  · (conv => whnf)
    exact ⟨(0, 0, 0), rfl, by simp, st5⟩
  · rintro ⟨i, c0, c1⟩ H6 junk ⟨hi, st6⟩
    simp only at hi st6
    (conv => whnf); refine VIte.mk (fun h => ?_) (fun h => ?_) <;> simp only [decide_eq_true_eq, decide_eq_false_iff_not] at h
    · have hi' : i < 256 := by omega
      (conv => whnf); refine ixa ar47 (by decide) (by decide) ?_
      (conv => whnf); rw [w8 (x := (i : Int)) (by omega) (by omega)]
      refine st1B st6 0 ct5 rfl (by simp) rfl fun H7 st7 => ?_
      have hle1 := sumU_le (f := fun b => wN oa 0 (stepM oa 0 b)) (m := 1) (fun k => wN_zero_le _ _) i
      have hle2 := sumU_le (f := fun b => wN oa 1 (stepM oa 0 b)) (m := 256) (fun k => wN_one_le _ _) i
      have hone : sumU (fun b => wN oa 0 (stepM oa 0 b)) (i + 1) = sumU (fun b => wN oa 0 (stepM oa 0 b)) i + if finM oa (stepM oa 0 i) then 1 else 0 := by rw [sumU_succ]; rfl
      have htwo : sumU (fun b => wN oa 1 (stepM oa 0 b)) (i + 1) = sumU (fun b => wN oa 1 (stepM oa 0 b)) i + sumU (fun c => wN oa 0 (stepM oa (stepM oa 0 i) c)) 256 := by rw [sumU_succ]; rfl
      generalize hz2 : sumU (fun b => wN oa 1 (stepM oa 0 b)) i = z2 at *
      generalize hz1 : sumU (fun b => wN oa 0 (stepM oa 0 b)) i = z1 at *
      refine VSeq.cut (α := Unit) [4] (fun _ => [.int .i64 ((sumU (fun b => wN oa 0 (stepM oa 0 b)) (i + 1) : Nat) : Int)]) (fun _ H8 => St H4 H8 [pB 47 w [.int .u8 (i : Int), .int .u8 (c1 : Int)]]) ?_ fun _ H8 junk8 st8 => ?_
      · (conv => whnf); refine vcutAH (h := 1) ar47 (by decide) fun c => ?_
        (conv => whnf); refine vb2s [i] (e := 5) rfl rfl rfl (fun j x hx => ?_) rfl ?_
        · cases j with
          | zero => obtain rfl : i = x := by simpa using hx
                    rw [(st7.blk 0 rfl).cell]; rfl
          | succ j => simp at hx
        (conv => whnf); refine pures (accepts_p (S := Old H4) (up st7.old) (hva4.frame st7.old) (show 1 ≤ maxLen by decide)) fun H8 ha8 => ?_
        have st8 := st7.call ha8
        rw [acc_one oa hi', hone]
        cases hf : finM oa (stepM oa 0 i) with
        | true =>
          (conv => whnf); rw [w64 (x := (z1 : Int) + 1) (by omega) (by omega)]
          exact ⟨rfl, (), by simp, st8⟩
        | false =>
          (conv => whnf)
          exact ⟨rfl, (), by simp, st8⟩
      · (conv => whnf)
        refine VLoop.mk [5, 8] (fun x : Nat × Nat => match x with | (k, c0) => [.int .i64 ((z2 + sumU (fun c => wN oa 0 (stepM oa (stepM oa 0 i) c)) k : Nat) : Int), .int .i64 (k : Int)])
          (fun x H9 => x.1 ≤ 256 ∧ St H4 H9 [pB 47 w [.int .u8 (i : Int), .int .u8 (x.2 : Int)]]) (fun x _ => 256 - x.1) ?_ ?_
        · (conv => whnf)
          exact ⟨(0, c1), rfl, by simp, st8⟩
        · rintro ⟨k, c0'⟩ H9 junk9 ⟨hk, st9⟩
          simp only at hk st9
          have hle3 := sumU_le (f := fun c => wN oa 0 (stepM oa (stepM oa 0 i) c)) (m := 1) (fun k => wN_zero_le _ _) k
          (conv => whnf); refine VIte.mk (fun h2 => ?_) (fun h2 => ?_) <;> simp only [decide_eq_true_eq, decide_eq_false_iff_not] at h2
          · have hk' : k < 256 := by omega
            have hnext : sumU (fun c => wN oa 0 (stepM oa (stepM oa 0 i) c)) (k + 1) = sumU (fun c => wN oa 0 (stepM oa (stepM oa 0 i) c)) k + if finM oa (stepM oa (stepM oa 0 i) k) then 1 else 0 := by rw [sumU_succ]; rfl
            generalize hz3 : sumU (fun c => wN oa 0 (stepM oa (stepM oa 0 i) c)) k = z3 at *
            (conv => whnf); refine VSeq.run ?_
            (conv => whnf); refine ixa (i := 1) ar47 (by decide) (by decide) ?_
            (conv => whnf); rw [w8 (x := (k : Int)) (by omega) (by omega)]
            refine st1B st9 0 ct5 rfl (by simp) rfl fun H10 st10 => ?_
            (conv => whnf); refine vcutA ar47 fun c => ?_
            (conv => whnf); refine vb2s [i, k] (e := 5) rfl rfl rfl (fun j x hx => ?_) rfl ?_
            · cases j with
              | zero => obtain rfl : i = x := by simpa using hx
                        rw [(st10.blk 0 rfl).cell]; rfl
              | succ j =>
                cases j with
                | zero => obtain rfl : k = x := by simpa using hx
                          rw [(st10.blk 0 rfl).cell]; rfl
                | succ j => simp at hx
            (conv => whnf); refine pures (accepts_p (S := Old H4) (up st10.old) (hva4.frame st10.old) (show 2 ≤ maxLen by decide)) fun H11 ha11 => ?_
            have st11 := st10.call ha11
            rw [acc_two oa hi' hk']
            cases hf : finM oa (stepM oa (stepM oa 0 i) k) with
            | true =>
              rw [hf] at hnext
              (conv => whnf); rw [w64 (x := ((z2 + z3 : Nat) : Int) + 1) (by omega) (by omega)]
              (conv => whnf); rw [w64 (x := (k : Int) + 1) (by omega) (by omega)]
              exact ⟨rfl, (k + 1, k), by simp only [hnext]; simp [Int.add_assoc], ⟨by simp only; omega, st11⟩, by simp only; omega⟩
            | false =>
              rw [hf] at hnext
              (conv => whnf); rw [w64 (x := (k : Int) + 1) (by omega) (by omega)]
              exact ⟨rfl, (k + 1, k), by simp only [hnext]; simp, ⟨by simp only; omega, st11⟩, by simp only; omega⟩
          · obtain rfl : k = 256 := by omega
            rw [← htwo]
            (conv => whnf); rw [w64 (x := (i : Int) + 1) (by omega) (by omega)]
            exact ⟨rfl, (i + 1, i, c0'), by simp, ⟨by simp only; omega, st9⟩, by simp only; omega⟩
    · obtain rfl : i = 256 := by omega
      rw [← wN_one, ← wN_two]
      have h1 := wN_one_le oa 0
      have h2 := wN_two_le oa 0
      have c1 : countR oa 1 = (((wN oa 1 0 : Nat) : Int), (0 : Int)) := by
        unfold countR TM
        rw [if_neg (by decide), show (1 : Int).toNat = 1 from rfl, if_pos (by omega)]
      have c2 : countR oa 2 = (((wN oa 2 0 : Nat) : Int), (0 : Int)) := by
        unfold countR TM
        rw [if_neg (by decide), show (2 : Int).toNat = 2 from rfl, if_pos (by omega)]
      generalize wN oa 1 0 = n1 at *
      generalize wN oa 2 0 = n2 at *
      (conv => whnf); refine pures (countW_p (S := Old H4) 1 (up st6.old) (hva4.frame st6.old) hc) fun H7 ha7 => ?_
      have st7 := st6.call ha7
      rw [c1]
      (conv => whnf); refine pures (countW_p (S := Old H4) 2 (up st7.old) (hva4.frame st7.old) hc) fun H8 ha8 => ?_
      have st8 := st7.call ha8
      rw [c2]
      have d1 : ((n1 : Int) == (n1 : Int)) = true := beq_self_eq_true _
      have d2 : ((n2 : Int) == (n2 : Int)) = true := beq_self_eq_true _
      (conv => whnf); rw [d1]
      (conv => whnf); rw [d2]
      (conv => whnf)
      exact ⟨rfl, hA4.trans (st8.old.mono fun k hk => old_lt hA4 hk)⟩
end Go.Proofs.Ytkgmhkcncemmkaa
