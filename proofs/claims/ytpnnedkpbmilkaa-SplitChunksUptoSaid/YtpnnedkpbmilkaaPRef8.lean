/- The document's Step, IsFinal, Accepts, Useful, Live. -/
import Derived.Test.YtpnnedkpbmilkaaPRef7
set_option linter.unusedVariables false
set_option linter.unusedSimpArgs false
set_option maxRecDepth 100000
namespace Go.Proofs.Ytpnnedkpbmilkaa
open Go.VC
attribute [local irreducible] mRun atRun

structure DM.Ok (D : DM) : Prop where
  n1 : 1 ≤ D.next.length
  n2 : D.next.length ≤ 65536
  fl : D.final.length = D.next.length
  cell : D.cell.length = 256
  rows : ∀ row ∈ D.next, row.length ≤ 256 ∧ (∀ c ∈ D.cell, 0 ≤ c ∧ c < (row.length : Int)) ∧ ∀ t ∈ row, 0 ≤ t ∧ t < (D.next.length : Int)
def stepD (D : DM) (q : Int) (b : Nat) : Int := if q < 0 ∨ (D.next.length : Int) ≤ q then -1 else ((D.next[q.toNat]?).getD []).getD (D.cell.getD b 0).toNat 0
def finD (D : DM) (q : Int) : Bool := decide (0 ≤ q) && (D.final[q.toNat]?).getD false
theorem dfa_box {S : Nat → Prop} {H : Heap} {v : Value} {D : DM} {K : Value → Heap → Prop} {t : TypeId} (h : DfaV S H v D)
    (k : ∀ ra rc na nc fa fc, v = .agg (dfaL D.cell (.slice ra D.reps.length rc) (.slice na D.next.length nc) (.slice fa D.final.length fc)).toArray → SlD tI S H ra rc D.reps → SlD tRows S H na nc D.next → SlD tBool S H fa fc D.final →
      New H (fun b H' => K (.pointer (some ⟨b, 0, none⟩)) H') t (dfaL D.cell (.slice ra D.reps.length rc) (.slice na D.next.length nc) (.slice fa D.final.length fc))) : VEff Try.prog (Instr.box t v) H K := by
  obtain ⟨hl, ra, rc, na, nc, fa, fc, rfl, h1, h2, h3⟩ := h
  exact vbox (dfaL D.cell (.slice ra D.reps.length rc) (.slice na D.next.length nc) (.slice fa D.final.length fc)) rfl (k ra rc na nc fa fc rfl h1 h2 h3)
theorem stepD_at {D : DM} {q b : Nat} {row : List Int} {c : Nat} {t : Int} (hr : D.next[q]? = some row) (hc : D.cell[b]? = some (c : Int)) (ht : row[c]? = some t) : stepD D (q : Int) b = t := by
  have := (List.getElem?_eq_some_iff.1 hr).1
  unfold stepD
  rw [if_neg (by omega)]
  simp only [Int.toNat_natCast, hr, List.getD_eq_getElem?_getD, hc, Option.getD_some, ht]
theorem DM.Ok.at {D : DM} (h : D.Ok) {q b : Nat} (hq : q < D.next.length) (hb : b < 256) : ∃ row c t, D.next[q]? = some row ∧ D.cell[b]? = some ((c : Nat) : Int) ∧ row[c]? = some t ∧ c < 256 ∧ 0 ≤ t ∧ t < (D.next.length : Int) ∧ t ∈ row := by
  obtain ⟨row, hr⟩ := get_some hq
  obtain ⟨ci, hc⟩ := get_some (l := D.cell) (k := b) (by rw [h.cell]; exact hb)
  obtain ⟨h1, h2, h3⟩ := h.rows row (List.mem_of_getElem? hr)
  obtain ⟨h4, h5⟩ := h2 ci (List.mem_of_getElem? hc)
  obtain ⟨c, rfl⟩ := Int.eq_ofNat_of_zero_le h4
  obtain ⟨t, ht⟩ := get_some (l := row) (k := c) (by omega)
  have := h3 t (List.mem_of_getElem? ht)
  exact ⟨row, c, t, hr, hc, ht, by omega, this.1, this.2, List.mem_of_getElem? ht⟩
theorem refstep_p {S : Nat → Prop} {H : Heap} {v : Value} {D : DM} {q : Int} {b : Nat} (hS : ∀ k, S k → k < H.size) (h : DfaV S H v D) (hok : D.Ok) (hb8 : b < 256) :
    Pure Try.prog 22 #[v, .int .i64 q, .int .u8 (b : Int)] H (.int .i64 (stepD D q b)) := by
  have hlen := h.len
  refine FnOk.of_vc Try.func22 rfl (Try.call22 _) ?_
  (conv => whnf); refine dfa_box h fun ra rc na nc fa fc he h1 h2 h3 => ?_
  subst he
  intro pb H1 hpb hs1 hb1 ha1
  have hA1 : Agr (Old H) H H1 := ha1.mono fun j hj => by unfold Old at hj; omega
  cases q with
  | negSucc n =>
    have hd : decide (Int.negSucc n < 0) = true := decide_eq_true (Int.negSucc_lt_zero n)
    (conv => whnf); rw [hd]
    (conv => whnf); exact ⟨by simp [stepD, Int.negSucc_lt_zero], hA1⟩
  | ofNat n =>
    (conv => whnf); refine VC.fa fl37_2 ?_
    (conv => whnf); refine ld1 ct23 (by rw [hb1.cell, Nat.zero_add]; exact dfaL_257 hlen) trivial ?_
    by_cases hn : D.next.length ≤ n
    · have hd : decide ((D.next.length : Int) ≤ Int.ofNat n) = true := decide_eq_true (by simpa using hn)
      (conv => whnf); rw [hd]
      (conv => whnf); exact ⟨by simp [stepD, hn], hA1⟩
    · have hd : decide ((D.next.length : Int) ≤ Int.ofNat n) = false := decide_eq_false (by simpa using hn)
      obtain ⟨row, c, t, hr, hc, ht, hc256, _⟩ := hok.at (q := n) (b := b) (by omega) hb8
      (conv => whnf); rw [hd]
      (conv => whnf); refine VDraw.lex rfl (by kernel_rfl) ?_
      (conv => whnf); refine VC.fa fl37_2 ?_
      (conv => whnf); refine ld1 ct23 (by rw [hb1.cell, Nat.zero_add]; exact dfaL_257 hlen) trivial ?_
      (conv => whnf); refine ixr sl23 (h2.frame (hA1.mono hS)) hr rfl ?_
      rintro b2 o2 cs2 hSb2 hcells2 ⟨xa, xc, rfl, hx⟩
      (conv => whnf); refine ld1 ct35 hcells2.one trivial ?_
      (conv => whnf); rw [w64 (x := (b : Int)) (by omega) (by omega)]
      (conv => whnf); refine VC.fa fl37_0 ?_
      (conv => whnf); refine ixa ar34 (by omega) (by omega) ?_
      (conv => whnf); refine ld1 (v := .int .i64 (c : Int)) ct3 (by rw [hb1.cell, show 0 + 0 + ((b : Nat) : Int).toNat * 1 = b by omega]; exact dfaL_at hc) trivial ?_
      (conv => whnf); refine ixr sl35 hx ht rfl ?_
      rintro b3 o3 cs3 hSb3 hcells3 ⟨rfl, -⟩
      (conv => whnf); refine ld1 ct3 hcells3.one trivial ?_
      (conv => whnf); exact ⟨by rw [show Int.ofNat n = (n : Int) from rfl, stepD_at hr hc ht], hA1⟩
theorem reffinal_p {S : Nat → Prop} {H : Heap} {v : Value} {D : DM} {q : Int} (hS : ∀ k, S k → k < H.size) (h : DfaV S H v D) :
    Pure Try.prog 24 #[v, .int .i64 q] H (.bool (finD D q)) := by
  have hlen := h.len
  refine FnOk.of_vc Try.func24 rfl (Try.call24 _) ?_
  (conv => whnf); refine dfa_box h fun ra rc na nc fa fc he h1 h2 h3 => ?_
  subst he
  intro pb H1 hpb hs1 hb1 ha1
  have hA1 : Agr (Old H) H H1 := ha1.mono fun j hj => by unfold Old at hj; omega
  cases q with
  | negSucc n =>
    (conv => whnf); exact ⟨rfl, hA1⟩
  | ofNat n =>
    (conv => whnf); refine VC.fa fl37_3 ?_
    (conv => whnf); refine ld1 ct24 (by rw [hb1.cell, Nat.zero_add]; exact dfaL_258 hlen) trivial ?_
    by_cases hnl : n < D.final.length
    · obtain ⟨f, hf⟩ := get_some hnl
      have hd : decide (Int.ofNat n < (D.final.length : Int)) = true := decide_eq_true (by simpa using hnl)
      (conv => whnf); rw [hd]
      (conv => whnf); refine VC.fa fl37_3 ?_
      (conv => whnf); refine ld1 ct24 (by rw [hb1.cell, Nat.zero_add]; exact dfaL_258 hlen) trivial ?_
      (conv => whnf); refine ixr sl24 (h3.frame (hA1.mono hS)) hf rfl ?_
      rintro b3 o3 cs3 hSb3 hcells3 rfl
      (conv => whnf); refine ld1 ct4 hcells3.one trivial ?_
      (conv => whnf); exact ⟨by simp [finD, hf], hA1⟩
    · have hd : decide (Int.ofNat n < (D.final.length : Int)) = false := decide_eq_false (by simpa using hnl)
      (conv => whnf); rw [hd]
      (conv => whnf); exact ⟨by simp [finD, List.getElem?_eq_none (Nat.le_of_not_lt hnl)], hA1⟩

def runD (D : DM) (s : ByteArray) (k : Nat) : Int := (s.data.toList.take k).foldl (fun q b => stepD D q b.toNat) 0
theorem runD_succ {D : DM} {s : ByteArray} {k : Nat} {b : UInt8} (h : s.data[k]? = some b) : runD D s (k + 1) = stepD D (runD D s k) b.toNat := by
  unfold runD
  rw [take_succ_snoc (x := b) (by rw [Array.getElem?_toList]; exact h), List.foldl_append]; rfl
def acceptsD (D : DM) (s : ByteArray) : Bool := finD D (runD D s s.size)
theorem dfa_load {S S0 : Nat → Prop} {H : Heap} {D : DM} {pb : Nat} {ra na fa : Option Addr} {rc nc fc : Nat} {K : Value → Prop} (hb : Blk H pb 37 (dfaL D.cell (.slice ra D.reps.length rc) (.slice na D.next.length nc) (.slice fa D.final.length fc))) (hl : D.cell.length = 256) (hS : S0 pb)
    (h1 : SlD tI S H ra rc D.reps) (h2 : SlD tRows S H na nc D.next) (h3 : SlD tBool S H fa fc D.final) (k : ∀ v, DfaV S H v D → K v) : VDet Try.prog (Instr.loadAt 37 (.pointer (some ⟨pb, 0, none⟩))) S0 H K :=
  ldN (cs := dfaL D.cell (.slice ra D.reps.length rc) (.slice na D.next.length nc) (.slice fa D.final.length fc)) (by rw [dfaL_len hl]; exact ag37) (hb.cells fun j v hv => by rw [Nat.zero_add]; exact hv) hS (k _ ⟨hl, ra, rc, na, nc, fa, fc, rfl, h1, h2, h3⟩)
theorem refaccepts_p {S : Nat → Prop} {H : Heap} {v : Value} {D : DM} {s : ByteArray} (hS : ∀ k, S k → k < H.size) (h : DfaV S H v D) (hok : D.Ok) (hs : s.size ≤ maxLen) :
    Pure Try.prog 29 #[v, .string s] H (.bool (acceptsD D s)) := by
  unfold maxLen at hs
  have hlen := h.len
  refine FnOk.of_vc Try.func29 rfl (Try.call29 _) ?_
  (conv => whnf); refine dfa_box h fun ra rc na nc fa fc he h1 h2 h3 => ?_
  subst he
  intro pb H1 hpb hs1 hb1 ha1
  have hA1 : Agr (Old H) H H1 := ha1.mono fun j hj => by unfold Old at hj; omega
  (conv => whnf)
  refine VLoop.mk [5, 6] (fun k : Nat => [.int .i64 (runD D s k), .int .i64 k]) (fun k H2 => k ≤ s.size ∧ Agr (Old H1) H1 H2) (fun k _ => s.size - k) ?_ ?_
  · (conv => whnf); exact ⟨0, rfl, by omega, Agr.refl _ _⟩
  · rintro k H2 junk ⟨hk, ha2⟩
    have hA2 : Agr (Old H) H H2 := hA1.trans (ha2.mono fun k hk => old_lt hA1 hk)
    have hb2 := hb1.agr ha2 hb1.lt
    have up : ∀ {H' : Heap}, Agr (Old H) H H' → ∀ k, S k → k < H'.size := fun h k hk => old_lt h (hS k hk)
    (conv => whnf); refine VIte.mk (fun h => ?_) (fun h => ?_) <;> simp only [decide_eq_true_eq, decide_eq_false_iff_not] at h
    · obtain ⟨b, hb⟩ := get_byte (s := s) (k := k) (by omega)
      (conv => whnf); refine VDraw.held (Old H2) 6 (sq [0,1,2,3,4] (.f 5 (.f 6 .e))) rfl (by kernel_rfl) ?_
      (conv => whnf); refine dfa_load hb2 hlen hb2.lt (h1.frame (hA2.mono hS)) (h2.frame (hA2.mono hS)) (h3.frame (hA2.mono hS)) fun v2 hv2 => ?_
      (conv => whnf); refine vidxs strT rfl hb ?_
      (conv => whnf); refine pures (refstep_p (up hA2) hv2 hok (UInt8.toNat_lt b)) fun H3 ha3 => ?_
      refine ⟨ha3, ?_⟩
      (conv => whnf); rw [w64 (x := (k : Int) + 1) (by omega) (by omega)]
      exact ⟨rfl, k + 1, by rw [runD_succ hb]; simp, ⟨by omega, ha2.trans (ha3.mono fun k hk => old_lt ha2 hk)⟩, by omega⟩
    · obtain rfl : k = s.size := by omega
      (conv => whnf); refine dfa_load hb2 hlen trivial (h1.frame (hA2.mono hS)) (h2.frame (hA2.mono hS)) (h3.frame (hA2.mono hS)) fun v2 hv2 => ?_
      (conv => whnf); refine pures (reffinal_p (up hA2) hv2) fun H3 ha3 => ?_
      (conv => whnf); exact ⟨rfl, hA2.trans (ha3.mono fun k hk => old_lt hA2 hk)⟩

end Go.Proofs.Ytpnnedkpbmilkaa
