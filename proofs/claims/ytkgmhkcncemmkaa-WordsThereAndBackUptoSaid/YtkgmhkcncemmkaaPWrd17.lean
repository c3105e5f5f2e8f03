/- The number of a word and the word of a number: there and back. -/
import Derived.Test.YtkgmhkcncemmkaaPWrd16
set_option linter.unusedVariables false
set_option linter.unusedSimpArgs false
set_option maxRecDepth 100000
namespace Go.Proofs.Ytkgmhkcncemmkaa
open Go.VC
attribute [local irreducible] mRun gRun atRun

theorem sumB_mono (f : Nat → Nat) {a b : Nat} (h : a ≤ b) : sumB f a ≤ sumB f b := by
  obtain ⟨k, rfl⟩ : ∃ k, b = a + k := ⟨b - a, by omega⟩
  clear h
  induction k with
  | zero => exact Nat.le_refl _
  | succ k ih => rw [← Nat.add_assoc, sumB_succ]; omega
theorem wN_sum (o : Option AM) (k : Nat) (q : Int) : wN o (k + 1) q = sumB (fun b => wN o k (stepM o q b)) 256 := rfl
theorem pick_sum (o : Option AM) (k : Nat) (q : Int) : ∀ (m i : Nat), m ≤ 255 → sumB (fun b => wN o k (stepM o q b)) (255 - m) + i = sumB (fun b => wN o k (stepM o q b)) (pickG o k q m i).1 + (pickG o k q m i).2
  | 0, i, _ => rfl
  | m + 1, i, h => by
    unfold pickG
    split
    · rfl
    · rename_i h1
      rw [← pick_sum o k q m _ (by omega), show 255 - m = (255 - (m + 1)) + 1 by omega, sumB_succ]
      omega
theorem pick_back (o : Option AM) (k : Nat) (q : Int) {b i' : Nat} (hb : b ≤ 255) (hi : i' < wN o k (stepM o q b)) (m : Nat) : ∀ i : Nat, m ≤ 255 → 255 - m ≤ b → sumB (fun b => wN o k (stepM o q b)) (255 - m) + i = sumB (fun b => wN o k (stepM o q b)) b + i' → pickG o k q m i = (b, i') := by
  generalize hf : (fun b => wN o k (stepM o q b)) = f
  induction m with
  | zero =>
    intro i _ h1 h2
    obtain rfl : b = 255 := by clear h2; omega
    rw [Nat.sub_zero] at h2
    rw [Nat.add_left_cancel h2]; rfl
  | succ m ih =>
    intro i h0 h1 h2
    have hfb : ∀ b : Nat, wN o k (stepM o q b) = f b := fun b => by rw [← hf]
    unfold pickG
    rw [hfb] at hi ⊢
    by_cases hbb : b = 255 - (m + 1)
    · subst hbb
      rw [Nat.add_left_cancel h2, if_pos hi]
    · have h3 := sumB_mono f (show 255 - (m + 1) + 1 ≤ b by omega)
      rw [sumB_succ] at h3
      rw [if_neg (by omega)]
      refine ih _ (by omega) (by omega) ?_
      rw [show 255 - m = (255 - (m + 1)) + 1 by omega, sumB_succ]
      omega
/-- How many words come ahead of this one, from q on. -/
def rkL (o : Option AM) : List Nat → Int → Nat
  | [], _ => 0
  | c :: r, q => sumB (fun b => wN o r.length (stepM o q b)) c + rkL o r (stepM o q c)
def foldM (o : Option AM) (l : List Nat) (q : Int) : Int := l.foldl (fun q b => stepM o q b) q
theorem nth_bytes (o : Option AM) : ∀ (n : Nat) (q : Int) (i : Nat), ∀ b ∈ nthL o n q i, b < 256
  | 0, _, _, b, h => by cases h
  | n + 1, q, i, b, h => by
    rw [nthL] at h
    rcases List.mem_cons.1 h with h | h
    · have := pick_lt o n q 255 i; omega
    · exact nth_bytes o n _ _ b h
theorem nth_fin (o : Option AM) : ∀ (n : Nat) (q : Int) (i : Nat), i < wN o n q → finM o (foldM o (nthL o n q i) q) = true
  | 0, q, i, h => by
    show finM o q = true
    cases hf : finM o q with
    | true => rfl
    | false =>
      have : wN o 0 q = 0 := by show (if finM o q then 1 else 0) = 0; rw [hf]; rfl
      omega
  | n + 1, q, i, h => by
    rw [nthL]
    exact nth_fin o n _ _ (pick_in o n q 255 i (by rw [tail_all]; exact h))
theorem nth_rank (o : Option AM) : ∀ (n : Nat) (q : Int) (i : Nat), i < wN o n q → rkL o (nthL o n q i) q = i
  | 0, q, i, h => by
    have : wN o 0 q ≤ 1 := by show (if finM o q then 1 else 0) ≤ 1; split <;> omega
    show 0 = i
    omega
  | n + 1, q, i, h => by
    rw [nthL, rkL, nth_len, nth_rank o n _ _ (pick_in o n q 255 i (by rw [tail_all]; exact h)), ← pick_sum o n q 255 i (Nat.le_refl _)]
    simp [sumB]
theorem rk_lt (o : Option AM) : ∀ (l : List Nat) (q : Int), (∀ b ∈ l, b < 256) → finM o (foldM o l q) = true → rkL o l q < wN o l.length q
  | [], q, _, h => by
    have : wN o 0 q = 1 := by show (if finM o q then 1 else 0) = 1; rw [show finM o q = true from h]; rfl
    show 0 < wN o 0 q
    omega
  | c :: r, q, hb, h => by
    have h1 := rk_lt o r (stepM o q c) (fun b h => hb b (List.mem_cons_of_mem _ h)) h
    have h2 := hb c List.mem_cons_self
    have h3 := sumB_mono (fun b => wN o r.length (stepM o q b)) (show c + 1 ≤ 256 by omega)
    rw [sumB_succ] at h3
    rw [rkL, List.length_cons, wN_sum]
    omega
theorem rank_nth (o : Option AM) : ∀ (l : List Nat) (q : Int), (∀ b ∈ l, b < 256) → finM o (foldM o l q) = true → nthL o l.length q (rkL o l q) = l
  | [], q, _, h => rfl
  | c :: r, q, hb, h => by
    have hb' : ∀ b ∈ r, b < 256 := fun b h => hb b (List.mem_cons_of_mem _ h)
    have h1 := rk_lt o r (stepM o q c) hb' h
    have h2 := hb c List.mem_cons_self
    have h3 : pickG o r.length q 255 (rkL o (c :: r) q) = (c, rkL o r (stepM o q c)) := pick_back o r.length q (by omega) h1 255 _ (Nat.le_refl _) (by omega) (by rw [rkL]; simp [sumB])
    rw [List.length_cons, nthL, h3]
    simp only
    rw [rank_nth o r _ hb' h]

/-! ### texts and bytes -/
def byL (s : ByteArray) : List Nat := s.data.toList.map UInt8.toNat
theorem byL_lt (s : ByteArray) : ∀ b ∈ byL s, b < 256 := fun b h => by
  obtain ⟨c, -, rfl⟩ := List.mem_map.1 h
  exact UInt8.toNat_lt c
theorem byL_len (s : ByteArray) : (byL s).length = s.size := by
  unfold byL; rw [List.length_map]; exact Array.length_toList
theorem txt_byL (s : ByteArray) : (⟨((byL s).map UInt8.ofNat).toArray⟩ : ByteArray) = s := by
  apply text_inj
  show (byL s).map UInt8.ofNat = s.data.toList
  unfold byL
  rw [List.map_map]
  conv => rhs; rw [← List.map_id s.data.toList]
  apply List.map_congr_left
  intro c _
  simp
theorem byL_txt {l : List Nat} (h : ∀ b ∈ l, b < 256) : byL ⟨(l.map UInt8.ofNat).toArray⟩ = l := by
  show (l.map UInt8.ofNat).map UInt8.toNat = l
  rw [List.map_map]
  conv => rhs; rw [← List.map_id l]
  apply List.map_congr_left
  intro b hb
  show (UInt8.ofNat b).toNat = b
  rw [UInt8.toNat_ofNat']; exact Nat.mod_eq_of_lt (h b hb)
theorem run_byL (o : Option AM) (s : ByteArray) (i : Nat) : runM o s i = foldM o ((byL s).take i) 0 := by
  unfold runM foldM byL
  rw [← List.map_take, List.foldl_map]
theorem acc_byL (o : Option AM) (s : ByteArray) : acceptsM o s = finM o (foldM o (byL s) 0) := by
  unfold acceptsM
  rw [run_byL, List.take_of_length_le (by rw [byL_len]; exact Nat.le_refl _)]
theorem rk_drop (o : Option AM) (s : ByteArray) : ∀ i, i ≤ s.size → rk o s i + rkL o ((byL s).drop i) (runM o s i) = rkL o (byL s) 0
  | 0, _ => by
    show 0 + rkL o (byL s) (runM o s 0) = _
    rw [Nat.zero_add]; rfl
  | i + 1, h => by
    obtain ⟨c, hb⟩ := get_byte (s := s) (k := i) (by omega)
    have hi : i < (byL s).length := by rw [byL_len]; omega
    have hc : (byL s)[i] = c.toNat := by
      have : (byL s)[i]? = some c.toNat := by
        unfold byL
        rw [List.getElem?_map, Array.getElem?_toList, hb]; rfl
      rw [List.getElem?_eq_getElem hi] at this
      injection this
    rw [← rk_drop o s i (by omega), List.drop_eq_getElem_cons hi, rkL, hc, rk, hb, runM_succ hb, List.length_drop, byL_len, show s.size - 1 - i = s.size - (i + 1) by omega]
    simp only [Option.getD_some]
    omega
theorem rk_all (o : Option AM) (s : ByteArray) : rk o s s.size = rkL o (byL s) 0 := by
  rw [← rk_drop o s s.size (Nat.le_refl _), List.drop_of_length_le (by rw [byL_len]; exact Nat.le_refl _)]
  rfl
/-- From the number to the word and back. -/
theorem there_ (o : Option AM) {n i : Nat} (hn : n ≤ 64) (h : i < wN o n 0) (hi : i < TM) :
    acceptsM o ⟨((nthL o n 0 i).map UInt8.ofNat).toArray⟩ = true ∧ (⟨((nthL o n 0 i).map UInt8.ofNat).toArray⟩ : ByteArray).size = n ∧ rankR o ⟨((nthL o n 0 i).map UInt8.ofNat).toArray⟩ = ((i : Int), 0) := by
  have h1 : acceptsM o ⟨((nthL o n 0 i).map UInt8.ofNat).toArray⟩ = true := by
    rw [acc_byL, byL_txt (nth_bytes o n 0 i)]
    exact nth_fin o n 0 i h
  have h2 : (⟨((nthL o n 0 i).map UInt8.ofNat).toArray⟩ : ByteArray).size = n := by
    rw [← byL_len, byL_txt (nth_bytes o n 0 i), nth_len]
  have h3 : rk o ⟨((nthL o n 0 i).map UInt8.ofNat).toArray⟩ (⟨((nthL o n 0 i).map UInt8.ofNat).toArray⟩ : ByteArray).size = i := by
    rw [rk_all, byL_txt (nth_bytes o n 0 i), nth_rank o n 0 i h]
  refine ⟨h1, h2, ?_⟩
  unfold rankR
  rw [h3, h2, if_neg (by omega), h1, if_pos rfl, if_pos hi]
/-- From the word to the number and back. -/
theorem back_ (o : Option AM) {s : ByteArray} (hs : ¬ 64 < s.size) (h : acceptsM o s = true) (hr : rk o s s.size < TM) : nthR o (s.size : Int) ((rk o s s.size : Nat) : Int) = (s, 0) := by
  rw [acc_byL] at h
  have h1 := rk_lt o (byL s) 0 (byL_lt s) h
  have h2 := rank_nth o (byL s) 0 (byL_lt s) h
  rw [byL_len] at h1 h2
  unfold nthR
  rw [if_neg (by omega), Int.toNat_natCast, Int.toNat_natCast, rk_all, if_neg (by omega), h2, txt_byL]
end Go.Proofs.Ytkgmhkcncemmkaa
