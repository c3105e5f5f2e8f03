/- The members in order: which they are, the i-th of them, the first (plain). -/
import Derived.Test.YtkgmhkcncemmkaaPWLs3
import Derived.Test.YtkgmhkcncemmkaaPBfs
set_option linter.unusedVariables false
set_option linter.unusedSimpArgs false
namespace Go.Proofs.Ytkgmhkcncemmkaa
open Go.VC
attribute [local irreducible] mRun gRun atRun
def runU (o : Option AM) (q : Int) (u : List Nat) : Int := u.foldl (fun q b => stepM o q b) q
theorem mem_iff (o : Option AM) : ∀ (n : Nat) (q : Int) (u : List Nat), u ∈ memL o n q ↔ u.length = n ∧ (∀ b ∈ u, b < 256) ∧ finM o (runU o q u) = true
  | 0, q, u => by
    unfold memL
    constructor
    · intro h
      split at h
      · rename_i hf
        rw [List.mem_singleton] at h
        subst h
        exact ⟨rfl, (fun b hb => by cases hb), hf⟩
      · cases h
    · rintro ⟨hl, -, hf⟩
      obtain rfl := List.eq_nil_of_length_eq_zero hl
      have hf' : finM o q = true := hf
      rw [if_pos hf']
      exact List.mem_singleton.2 rfl
  | n + 1, q, u => by
    unfold memL
    rw [List.mem_flatMap]
    constructor
    · rintro ⟨b, hb, h⟩
      obtain ⟨v, hv, rfl⟩ := List.mem_map.1 h
      obtain ⟨h1, h2, h3⟩ := (mem_iff o n _ v).1 hv
      refine ⟨by simp [h1], fun c hc => ?_, h3⟩
      rcases List.mem_cons.1 hc with rfl | hc
      · exact List.mem_range.1 hb
      · exact h2 c hc
    · rintro ⟨hl, hb, hf⟩
      cases u with
      | nil => simp at hl
      | cons b u =>
        refine ⟨b, List.mem_range.2 (hb b (by simp)), List.mem_map.2 ⟨u, (mem_iff o n _ u).2 ⟨by simpa using hl, fun c hc => hb c (by simp [hc]), hf⟩, rfl⟩⟩
/-- In order. -/
def lexT (u v : List Nat) : Prop := Op.bytesLess (u.map UInt8.ofNat) (v.map UInt8.ofNat) = true
theorem less_cons (a : UInt8) (u v : List UInt8) : Op.bytesLess (a :: u) (a :: v) = Op.bytesLess u v := by
  simp [Op.bytesLess]
theorem less_head {a b : UInt8} (h : a < b) (u v : List UInt8) : Op.bytesLess (a :: u) (b :: v) = true := by
  simp [Op.bytesLess, h]
theorem less_irr : ∀ (u : List UInt8), Op.bytesLess u u = false
  | [] => rfl
  | a :: u => by rw [less_cons]; exact less_irr u
theorem memL_sorted (o : Option AM) : ∀ (n : Nat) (q : Int), (memL o n q).Pairwise lexT
  | 0, q => by
    unfold memL
    split
    · exact List.pairwise_singleton _ _
    · exact List.Pairwise.nil
  | n + 1, q => by
    unfold memL
    rw [List.pairwise_flatMap]
    refine ⟨fun b _ => ?_, ?_⟩
    · rw [List.pairwise_map]
      refine (memL_sorted o n _).imp fun {u v} h => ?_
      unfold lexT at h ⊢
      rw [List.map_cons, List.map_cons, less_cons]
      exact h
    · have hp : (List.range 256).Pairwise (fun a b => a < b ∧ b < 256) := by
        have h1 : (List.range 256).Pairwise (· < ·) := List.pairwise_lt_range
        exact h1.imp_of_mem fun _ hb h => ⟨h, List.mem_range.1 hb⟩
      refine hp.imp ?_
      rintro a b ⟨hab, hb⟩ x hx y hy
      obtain ⟨u, -, rfl⟩ := List.mem_map.1 hx
      obtain ⟨v, -, rfl⟩ := List.mem_map.1 hy
      unfold lexT
      rw [List.map_cons, List.map_cons]
      refine less_head ?_ _ _
      rw [UInt8.lt_iff_toNat_lt, UInt8.toNat_ofNat', UInt8.toNat_ofNat']
      omega
/-! ### the i-th -/
def tailL (o : Option AM) (k : Nat) (q : Int) : Nat → List (List Nat)
  | 0 => (memL o k (stepM o q 255)).map (255 :: ·)
  | m + 1 => (memL o k (stepM o q (255 - (m + 1)))).map ((255 - (m + 1)) :: ·) ++ tailL o k q m
theorem tail_mem (o : Option AM) (k : Nat) (q : Int) : ∀ m, m ≤ 255 → memTo o k q (255 - m) ++ tailL o k q m = memL o (k + 1) q
  | 0, _ => by
    rw [← memTo_all]
    exact (memTo_succ o k q 255).symm
  | m + 1, h => by
    rw [← tail_mem o k q m (by omega), tailL, show 255 - m = (255 - (m + 1)) + 1 by omega, memTo_succ, List.append_assoc]
theorem pick_mem (o : Option AM) (k : Nat) (q : Int) (ih : ∀ (q : Int) (i : Nat), i < wN o k q → (memL o k q)[i]? = some (nthL o k q i)) : ∀ (m i : Nat), i < tailS o k q m → (tailL o k q m)[i]? = some ((pickG o k q m i).1 :: nthL o k (stepM o q (pickG o k q m i).1) (pickG o k q m i).2)
  | 0, i, h => by
    show ((memL o k (stepM o q 255)).map (255 :: ·))[i]? = some (255 :: nthL o k (stepM o q 255) i)
    rw [List.getElem?_map, ih _ _ h]
    rfl
  | m + 1, i, h => by
    unfold pickG tailL
    split
    · rename_i h1
      rw [List.getElem?_append_left (by rw [List.length_map, memL_len]; exact h1), List.getElem?_map, ih _ _ h1]
      rfl
    · rename_i h1
      rw [List.getElem?_append_right (by rw [List.length_map, memL_len]; omega), List.length_map, memL_len]
      exact pick_mem o k q ih m _ (by rw [tailS] at h; omega)
theorem mem_nth (o : Option AM) : ∀ (n : Nat) (q : Int) (i : Nat), i < wN o n q → (memL o n q)[i]? = some (nthL o n q i)
  | 0, q, i, h => by
    have hl := memL_len o 0 q
    unfold memL at hl ⊢
    split
    · rename_i hf
      rw [if_pos hf] at hl
      obtain rfl : i = 0 := by simp at hl; omega
      rfl
    · rename_i hf
      rw [if_neg hf] at hl
      simp at hl; omega
  | n + 1, q, i, h => by
    have ht := tail_mem o n q 255 (Nat.le_refl _)
    have hz : memTo o n q (255 - 255) = [] := rfl
    rw [hz, List.nil_append] at ht
    rw [← ht]
    exact pick_mem o n q (fun q i h => mem_nth o n q i h) 255 i (by rw [tail_all]; exact h)
/-! ### the first -/
theorem all_head (o : Option AM) {x : List Nat} : ∀ (m : Nat) (r : List (List Nat)), allM o m = x :: r → ∃ k r', k < m ∧ memL o k 0 = x :: r' ∧ ∀ j, j < k → memL o j 0 = []
  | 0, r, h => by cases h
  | m + 1, r, h => by
    rw [allM_succ] at h
    cases hm : allM o m with
    | nil =>
      rw [hm, List.nil_append] at h
      refine ⟨m, r, by omega, h, fun j hj => ?_⟩
      unfold allM at hm
      rw [List.flatMap_eq_nil_iff] at hm
      exact hm j (List.mem_range.2 hj)
    | cons y l =>
      rw [hm, List.cons_append] at h
      injection h with h1 h2
      subst h1
      obtain ⟨k, r', h3, h4, h5⟩ := all_head o m l hm
      exact ⟨k, r', by omega, h4, h5⟩
theorem runU_all (o : Option AM) (u : List Nat) (hu : ∀ b ∈ u, b < 256) : acceptsM o (txt u) = finM o (runU o 0 u) := by
  unfold acceptsM runM runU txt
  have e : (⟨(u.map UInt8.ofNat).toArray⟩ : ByteArray).data.toList = u.map UInt8.ofNat := rfl
  have es : (⟨(u.map UInt8.ofNat).toArray⟩ : ByteArray).size = (u.map UInt8.ofNat).length := rfl
  rw [es, e, List.take_length, List.foldl_map]
  congr 1
  have key : ∀ (l : List Nat) (q : Int), (∀ b ∈ l, b < 256) → l.foldl (fun q b => stepM o q (UInt8.ofNat b).toNat) q = l.foldl (fun q b => stepM o q b) q := by
    intro l
    induction l with
    | nil => intro q _; rfl
    | cons b l ih =>
      intro q hl
      have hb : (UInt8.ofNat b).toNat = b := by rw [UInt8.toNat_ofNat']; exact Nat.mod_eq_of_lt (hl b (by simp))
      rw [List.foldl_cons, List.foldl_cons, hb]
      exact ih _ fun c hc => hl c (by simp [hc])
  exact key u 0 hu
def unt (w : ByteArray) : List Nat := w.data.toList.map UInt8.toNat
theorem unt_txt (w : ByteArray) : txt (unt w) = w := by
  apply text_inj
  unfold txt unt
  simp [Function.comp_def]
theorem unt_lt (w : ByteArray) : ∀ b ∈ unt w, b < 256 := fun b hb => by
  obtain ⟨c, -, rfl⟩ := List.mem_map.1 hb
  exact UInt8.toNat_lt c
theorem unt_len (w : ByteArray) : (unt w).length = w.size := by unfold unt; rw [List.length_map]; exact Array.length_toList
theorem txt_toList (u : List Nat) : (txt u).data.toList = u.map UInt8.ofNat := rfl
theorem acc_mem {o : Option AM} {w : ByteArray} (h : acceptsM o w = true) : unt w ∈ memL o w.size 0 := by
  rw [mem_iff]
  refine ⟨unt_len w, unt_lt w, ?_⟩
  rw [← runU_all o _ (unt_lt w), unt_txt]
  exact h
theorem least_head {o : Option AM} (hst : StepIn o) (hn : 1 ≤ stN o) {x : List Nat} {r : List (List Nat)} (h : allM o 65 = x :: r) : leastM o = some (txt x) := by
  obtain ⟨k, r', hk, hm, hno⟩ := all_head o 65 r h
  have hx : x ∈ memL o k 0 := by rw [hm]; simp
  obtain ⟨hxl, hxb, hxf⟩ := (mem_iff o k 0 x).1 hx
  have hacc : acceptsM o (txt x) = true := by rw [runU_all o x hxb]; exact hxf
  obtain ⟨w, hw, hle⟩ := (least_law hst hn).2 _ hacc
  have hwa := ((least_law hst hn).1 w hw).1
  have hwm := acc_mem hwa
  rw [txt_toList] at hle
  have hwl : w.data.toList.length = w.size := Array.length_toList
  have hwk : w.size ≤ k := by
    rcases hle with hlt | he
    · rcases hlt with hlt | ⟨hlt, -⟩
      · rw [hwl, List.length_map, hxl] at hlt; omega
      · rw [hwl, List.length_map, hxl] at hlt; omega
    · rw [← hwl, he, List.length_map, hxl]; omega
  have hwe : w.size = k := by
    rcases Nat.lt_or_ge w.size k with h1 | h1
    · rw [hno _ h1] at hwm; cases hwm
    · omega
  rw [hwe, hm] at hwm
  rw [hw]
  congr 1
  rcases List.mem_cons.1 hwm with h1 | h1
  · rw [← h1, unt_txt]
  · have hs := memL_sorted o k 0
    rw [hm] at hs
    have hlt := (List.pairwise_cons.1 hs).1 _ h1
    unfold lexT at hlt
    have e : (unt w).map UInt8.ofNat = w.data.toList := by rw [← txt_toList, unt_txt]
    rw [e] at hlt
    exfalso
    rcases hle with hlt2 | he
    · rcases hlt2 with hlt2 | ⟨-, hlt2⟩
      · rw [hwl, List.length_map, hxl] at hlt2; omega
      · have := less_trans _ _ _ hlt hlt2
        rw [less_irr] at this; cases this
    · rw [he, less_irr] at hlt; cases hlt
theorem least_far {o : Option AM} (hst : StepIn o) (hn : 1 ≤ stN o) (h : allM o 65 = []) {w : ByteArray} (hw : leastM o = some w) : 64 < w.size := by
  have hwm := acc_mem ((least_law hst hn).1 w hw).1
  rcases Nat.lt_or_ge 64 w.size with h1 | h1
  · exact h1
  · unfold allM at h
    rw [List.flatMap_eq_nil_iff] at h
    rw [h w.size (List.mem_range.2 (by omega))] at hwm
    cases hwm
theorem all_len (o : Option AM) (m : Nat) : (allM o (m + 1)).length = (allM o m).length + wN o m 0 := by rw [allM_succ, List.length_append, memL_len]
/-- The member at the place of the i-th of n bytes. -/
theorem all_at (o : Option AM) {n i : Nat} (hn : n ≤ 64) (hi : i < wN o n 0) : (allM o 65)[(allM o n).length + i]? = some (nthL o n 0 i) := by
  obtain ⟨r, hr⟩ := allM_pre o (c := n + 1) (d := 65) (by omega)
  rw [hr, allM_succ, List.append_assoc, List.getElem?_append_right (by omega), Nat.add_sub_cancel_left, List.getElem?_append_left (by rw [memL_len]; exact hi)]
  exact mem_nth o n 0 i hi
end Go.Proofs.Ytkgmhkcncemmkaa
