/- The document's Live; both automata of a table step alike. -/
import Derived.Test.YtpnnedkpbmilkaaPRef9
set_option linter.unusedVariables false
set_option linter.unusedSimpArgs false
set_option maxRecDepth 100000
namespace Go.Proofs.Ytpnnedkpbmilkaa
open Go.VC
attribute [local irreducible] mRun atRun

open Classical in
noncomputable def aliveD (D : DM) (q : Int) : Bool := decide (LiveT D.next D.final q.toNat)
noncomputable def liveD (D : DM) (s : ByteArray) : Nat := match (List.range s.size).find? fun i => !aliveD D (runD D s (i + 1)) with
  | some i => i
  | none => if aliveD D 0 then s.size else 0
theorem useful_len (D : DM) : (usefulL D).length = D.next.length := by simp [usefulL]
theorem useful_at {D : DM} {q : Nat} (h : q < D.next.length) : (usefulL D)[q]? = some (aliveD D (q : Int)) := by
  unfold usefulL aliveD
  rw [List.getElem?_map, List.getElem?_range h, Int.toNat_natCast]; rfl
theorem stepD_range {D : DM} (hok : D.Ok) {q : Int} {b : Nat} (h0 : 0 ≤ q) (h1 : q < D.next.length) (hb : b < 256) : 0 ≤ stepD D q b ∧ stepD D q b < D.next.length := by
  obtain ⟨n, rfl⟩ := Int.eq_ofNat_of_zero_le h0
  obtain ⟨row, c, t, hr, hc, ht, _, h2, h3, _⟩ := hok.at (q := n) (b := b) (by omega) hb
  rw [stepD_at hr hc ht]
  exact ⟨h2, h3⟩
theorem runD_range {D : DM} (hok : D.Ok) (s : ByteArray) : ∀ k, k ≤ s.size → 0 ≤ runD D s k ∧ runD D s k < D.next.length
  | 0, _ => ⟨Int.le_refl _, by have := hok.n1; simp only [runD, List.take_zero, List.foldl_nil]; omega⟩
  | k + 1, hk => by
    obtain ⟨b, hb⟩ := get_byte (s := s) (k := k) (by omega)
    obtain ⟨h0, h1⟩ := runD_range hok s k (by omega)
    rw [runD_succ hb]
    exact stepD_range hok h0 h1 (UInt8.toNat_lt b)
theorem reflive_p {S : Nat → Prop} {H : Heap} {v : Value} {D : DM} {s : ByteArray} (hS : ∀ k, S k → k < H.size) (h : DfaV S H v D) (hok : D.Ok) (hs : s.size ≤ maxLen) :
    Pure Try.prog 31 #[v, .string s] H (.int .i64 (liveD D s : Int)) := by
  unfold maxLen at hs
  have hlen := h.len
  have hn1 := hok.n1
  refine FnOk.of_vc Try.func31 rfl (Try.call31 _) ?_
  (conv => whnf); refine dfa_box h fun ra rc na nc fa fc he h1 h2 h3 => ?_
  subst he
  intro pb H1 hpb hs1 hb1 ha1
  have hA1 : Agr (Old H) H H1 := ha1.mono fun j hj => by unfold Old at hj; omega
  have up : ∀ {H' : Heap}, Agr (Old H) H H' → ∀ k, S k → k < H'.size := fun h k hk => old_lt h (hS k hk)
  (conv => whnf); refine dfa_load hb1 hlen trivial (h1.frame (hA1.mono hS)) (h2.frame (hA1.mono hS)) (h3.frame (hA1.mono hS)) fun v1 hv1 => ?_
  (conv => whnf); refine VCall.mk (useful_c (up hA1) hv1 hok) ?_
  rintro v2 H2 ⟨ha2, hs2, ua, uc, rfl, hu⟩
  have hA2 := hA1.trans (ha2.mono fun k hk => old_lt hA1 hk)
  have hb2 := hb1.agr ha2 hb1.lt
  (conv => whnf)
  refine VLoop.mk [6, 7] (fun k : Nat => [.int .i64 (runD D s k), .int .i64 k]) (fun k H3 => k ≤ s.size ∧ Agr (Old H2) H2 H3 ∧ ∀ i, i < k → aliveD D (runD D s (i + 1)) = true) (fun k _ => s.size - k) ?_ ?_
  · (conv => whnf); exact ⟨0, rfl, by omega, Agr.refl _ _, fun i hi => by omega⟩
  · rintro k H3 junk ⟨hk, ha3, hal⟩
    have hA3 := hA2.trans (ha3.mono fun k hk => old_lt hA2 hk)
    have hb3 := hb2.agr ha3 hb2.lt
    (conv => whnf); refine VIte.mk (fun h => ?_) (fun h => ?_) <;> simp only [decide_eq_true_eq, decide_eq_false_iff_not] at h
    · obtain ⟨b, hb⟩ := get_byte (s := s) (k := k) (by omega)
      (conv => whnf); refine VDraw.held (Old H3) 6 (sq [0,1,2,3,4] (.f 5 (.f 6 .e))) rfl (by kernel_rfl) ?_
      (conv => whnf); refine dfa_load hb3 hlen hb3.lt (h1.frame (hA3.mono hS)) (h2.frame (hA3.mono hS)) (h3.frame (hA3.mono hS)) fun v3 hv3 => ?_
      (conv => whnf); refine vidxs strT rfl hb ?_
      (conv => whnf); refine pures (refstep_p (up hA3) hv3 hok (UInt8.toNat_lt b)) fun H4 ha4 => ?_
      refine ⟨ha4, ?_⟩
      rw [← runD_succ hb]
      obtain ⟨r0, r1⟩ := runD_range hok s (k + 1) (by omega)
      have hal' := useful_at (D := D) (q := (runD D s (k + 1)).toNat) (by omega)
      rw [Int.toNat_of_nonneg r0] at hal'
      have hA34 := ha3.trans (ha4.mono fun k hk => old_lt ha3 hk)
      (conv => whnf); refine ixr (i := (runD D s (k + 1)).toNat) sl24 (hu.frame (hA34.mono fun j hj => hj.2)) hal' (by omega) ?_
      rintro b5 o5 cs5 hSb5 hcells5 rfl
      (conv => whnf); refine ld1 ct4 hcells5.one trivial ?_
      cases hx : aliveD D (runD D s (k + 1)) with
      | false =>
        (conv => whnf)
        refine ⟨?_, hA3.trans (ha4.mono fun k hk => old_lt hA3 hk)⟩
        have h3 : ((List.range s.size).find? fun i => !aliveD D (runD D s (i + 1))) = some k := by
          rw [List.find?_range_eq_some]
          exact ⟨by simp [hx], by simp; omega, fun j hj => by simp [hal j hj]⟩
        unfold liveD
        rw [h3]
      | true =>
        (conv => whnf); rw [w64 (x := (k : Int) + 1) (by omega) (by omega)]
        refine ⟨rfl, k + 1, by simp, ⟨by omega, hA34, fun i hi => ?_⟩, by omega⟩
        by_cases hik : i = k
        · subst hik; exact hx
        · exact hal i (by omega)
    · obtain rfl : k = s.size := by omega
      have h3 : ((List.range s.size).find? fun i => !aliveD D (runD D s (i + 1))) = none := by
        rw [List.find?_range_eq_none]
        intro i hi
        simp [hal i hi]
      have hal0 := useful_at (D := D) (q := 0) (by omega)
      (conv => whnf); refine ixr (i := 0) sl24 (hu.frame (ha3.mono fun j hj => hj.2)) hal0 rfl ?_
      rintro b5 o5 cs5 hSb5 hcells5 rfl
      (conv => whnf); refine ld1 ct4 hcells5.one trivial ?_
      have hl : liveD D s = if aliveD D 0 then s.size else 0 := by unfold liveD; rw [h3]
      cases hx : aliveD D 0 with
      | false =>
        (conv => whnf)
        exact ⟨by rw [hl, hx]; rfl, hA3⟩
      | true =>
        (conv => whnf)
        exact ⟨by rw [hl, hx]; rfl, hA3⟩

end Go.Proofs.Ytpnnedkpbmilkaa
