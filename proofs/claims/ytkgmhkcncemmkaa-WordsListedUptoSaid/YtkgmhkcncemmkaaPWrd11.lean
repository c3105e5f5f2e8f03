/- words.Nth: the plain law and the walk. -/
import Derived.Test.YtkgmhkcncemmkaaPWrd7
set_option linter.unusedVariables false
set_option linter.unusedSimpArgs false
set_option maxRecDepth 100000
namespace Go.VC
/-- A slice of bytes of the call's own, turned into a text. -/
theorem vstrO {P : Program} {s d e cap n : Nat} {a : Option Addr} {S B : Nat → Prop} {H0 H : Heap} {ps : List Pc} {K : Value → Heap → Prop} (bs : List Nat) (st : StB B H0 H ps) (i : Nat) (hp : ps[i]? = some (pN (tInt .u8) S e a n cap (bs.map fun (x : Nat) => (x : Int))))
    (hs : P.underlying s = some (.slice e)) (he : P.underlying e = some (.int .u8)) (hd : P.underlying d = some .string) (k : K (.string ⟨(bs.map UInt8.ofNat).toArray⟩) H) : VEff P (convert s d (.slice a n cap)) H K := by
  have h := st.view i hp
  have hn := st.len i hp
  rw [List.length_map] at hn
  cases bs with
  | nil =>
    cases a with
    | none => exact vb2s0 hs he hd k
    | some ad =>
      obtain ⟨b, o, w⟩ := ad
      have : n = 0 := hn
      subst this
      have hq := (st.at_ i hp).1
      obtain ⟨cs, ⟨h0, h1⟩, h2⟩ := hq
      rcases h1 with ⟨h1, -⟩ | ⟨b', cap', l, h1, -⟩
      · cases h1
      · injection h1 with h1
        injection h1 with h1
        injection h1 with g1 g2 g3
        subst g1; subst g2; subst g3
        exact vb2s [] hs he hd (fun j x hx => by simp at hx) rfl k
  | cons x bs =>
    obtain ⟨b, o, c, rfl, -⟩ := h.get (i := 0) (x := (x : Int)) rfl
    refine vb2s (x :: bs) hs he hd (fun j y hy => ?_) hn k
    obtain ⟨b', o', c', e1, -, h2, h3⟩ := h.get (i := j) (x := (y : Int)) (by rw [List.getElem?_map, hy]; rfl)
    injection e1 with e1
    injection e1 with g1 g2
    subst g1; subst g2
    obtain ⟨rfl, -⟩ := h3
    have := h2.one
    rwa [show (tInt .u8).size = 1 from rfl, Nat.mul_one] at this
end Go.VC
namespace Go.Proofs.Ytkgmhkcncemmkaa
open Go.VC
attribute [local irreducible] mRun gRun atRun

/-! ### the plain law -/
/-- From byte 255 - m on: the byte that the i-th word goes on with, and its number among those that go on so. -/
def pickG (o : Option AM) (k : Nat) (q : Int) : Nat → Nat → Nat × Nat
  | 0, i => (255, i)
  | m + 1, i => if i < wN o k (stepM o q (255 - (m + 1))) then (255 - (m + 1), i) else pickG o k q m (i - wN o k (stepM o q (255 - (m + 1))))
/-- How many words go on with byte 255 - m or a later one. -/
def tailS (o : Option AM) (k : Nat) (q : Int) : Nat → Nat
  | 0 => wN o k (stepM o q 255)
  | m + 1 => wN o k (stepM o q (255 - (m + 1))) + tailS o k q m
theorem tail_sum (o : Option AM) (k : Nat) (q : Int) : ∀ m, m ≤ 255 → ((List.range (255 - m)).map fun b => wN o k (stepM o q b)).sum + tailS o k q m = wN o (k + 1) q
  | 0, _ => by
    show ((List.range 255).map fun b => wN o k (stepM o q b)).sum + wN o k (stepM o q ((255 : Nat) : Int).toNat) = ((List.range 256).map fun b => wN o k (stepM o q b)).sum
    rw [show List.range 256 = List.range 255 ++ [255] from List.range_succ, List.map_append, List.sum_append]
    rfl
  | m + 1, h => by
    rw [← tail_sum o k q m (by omega), tailS, ← Nat.add_assoc]
    congr 1
    rw [show 255 - m = (255 - (m + 1)) + 1 by omega, List.range_succ, List.map_append, List.sum_append]
    simp
theorem tail_all (o : Option AM) (k : Nat) (q : Int) : tailS o k q 255 = wN o (k + 1) q := by
  rw [← tail_sum o k q 255 (Nat.le_refl _)]
  simp
theorem pick_lt (o : Option AM) (k : Nat) (q : Int) : ∀ (m i : Nat), (pickG o k q m i).1 ≤ 255
  | 0, _ => Nat.le_refl _
  | m + 1, i => by
    unfold pickG
    split
    · show 255 - (m + 1) ≤ 255; omega
    · exact pick_lt o k q m _
theorem pick_in (o : Option AM) (k : Nat) (q : Int) : ∀ (m i : Nat), i < tailS o k q m → (pickG o k q m i).2 < wN o k (stepM o q (pickG o k q m i).1)
  | 0, i, h => h
  | m + 1, i, h => by
    unfold pickG
    split
    · rename_i h1; exact h1
    · rename_i h1
      exact pick_in o k q m _ (by rw [tailS] at h; omega)
theorem pick_le (o : Option AM) (k : Nat) (q : Int) : ∀ (m i : Nat), (pickG o k q m i).2 ≤ i
  | 0, i => Nat.le_refl _
  | m + 1, i => by
    unfold pickG
    split
    · exact Nat.le_refl _
    · exact Nat.le_trans (pick_le o k q m _) (Nat.sub_le _ _)
/-- The i-th word of n bytes from q on. -/
def nthL (o : Option AM) : Nat → Int → Nat → List Nat
  | 0, _, _ => []
  | k + 1, q, i => (pickG o k q 255 i).1 :: nthL o k (stepM o q (pickG o k q 255 i).1) (pickG o k q 255 i).2
theorem nth_len (o : Option AM) : ∀ (n : Nat) (q : Int) (i : Nat), (nthL o n q i).length = n
  | 0, _, _ => rfl
  | n + 1, q, i => by rw [nthL, List.length_cons, nth_len]
def nthR (o : Option AM) (n i : Int) : ByteArray × Int := if n < 0 ∨ 64 < n ∨ i < 0 then (⟨#[]⟩, 2) else if wN o n.toNat 0 ≤ i.toNat then (⟨#[]⟩, 3) else (⟨((nthL o n.toNat 0 i.toNat).map UInt8.ofNat).toArray⟩, 0)

/-! ### the tally as a piece -/
theorem from_v {S B F : Nat → Prop} {H0 H : Heap} {ps : List Pc} {va : Value} {o : Option AM} {pb L q n : Nat} {ni qi : Int} {K : Value → Heap → Prop} (st : StB B H0 H ps) (i : Nat) (hp : ps[i]? = some (pTal F va o pb L)) (hS : ∀ k, S k → B k) (hv : AutoV S H va o) (hL : 1 ≤ L) (hL2 : L ≤ 65) (hq : qi = (q : Int)) (hn : ni = (n : Int)) (hn6 : n ≤ 64) (hqs : q < stN o)
    (k : ∀ F' H', StB B H0 H' (ps.set i (pTal F' va o pb (max L (n + 1)))) → K (.int .u64 (cntP o n (q : Int) : Int)) H') : VCall Try.prog 42 #[.pointer (some ⟨pb, 0, none⟩), .int .i64 qi, .int .i64 ni] H K := by
  subst hq; subst hn
  have hin : ∀ k, F k → ¬ B k ∧ k < H.size := fun k hk => st.in_ i hp hk
  refine VCall.mk (from_c (S := S) (F := F) (fun k hk => ⟨st.up (hS k hk), fun hf => (hin k hf).1 (hS k hk)⟩) (fun k hk => (hin k hk).2) hv (st.at_ i hp) hL hL2 hn6 hqs) ?_
  rintro _ H1 ⟨rfl, F', ts⟩
  exact k F' H1 (st.upd i hp ts.agr _ ts.tal ts.from_ ts.lt ts.le)
theorem newTally_v {S B : Nat → Prop} {H0 H : Heap} {ps : List Pc} {va : Value} {o : Option AM} {K : Value → Heap → Prop} (st : StB B H0 H ps) (hS : ∀ k, S k → B k) (hv : AutoV S H va o)
    (k : ∀ pb F H', StB B H0 H' (ps ++ [pTal F va o pb 1]) → K (.pointer (some ⟨pb, 0, none⟩)) H') : VCall Try.prog 41 #[va] H K := by
  refine VCall.mk (newTally_c (fun k hk => st.up (hS k hk)) hv) ?_
  rintro _ H1 ⟨ha1, pb, F, rfl, ht, hF⟩
  exact k pb F H1 (st.add ha1 _ ht hF)
end Go.Proofs.Ytkgmhkcncemmkaa
