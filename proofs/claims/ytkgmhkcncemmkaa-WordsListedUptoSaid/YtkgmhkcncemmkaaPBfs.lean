/- The search for the first member, in plain Lean. -/
import Derived.Test.YtkgmhkcncemmkaaPCOk
set_option linter.unusedVariables false
set_option linter.unusedSimpArgs false
set_option maxRecDepth 100000
namespace Go.Proofs.Ytkgmhkcncemmkaa
open Go.VC
attribute [local irreducible] mRun gRun

/-! ### the order of texts -/
/-- Shorter, or as long and ahead byte by byte. -/
def lt2 (u v : List UInt8) : Prop := u.length < v.length ∨ (u.length = v.length ∧ Op.bytesLess u v = true)
theorem less_snoc : ∀ (u v : List UInt8) (a b : UInt8), u.length = v.length → Op.bytesLess u v = true → Op.bytesLess (u ++ [a]) (v ++ [b]) = true
  | [], [], _, _, _, h => by simp [Op.bytesLess] at h
  | x :: u, y :: v, a, b, hl, h => by
    simp only [List.cons_append, Op.bytesLess, Bool.or_eq_true, Bool.and_eq_true, decide_eq_true_eq] at h ⊢
    rcases h with h | ⟨h1, h2⟩
    · exact .inl h
    · exact .inr ⟨h1, less_snoc u v a b (by simpa using hl) h2⟩
  | [], y :: v, _, _, hl, _ => by simp at hl
  | x :: u, [], _, _, hl, _ => by simp at hl
theorem less_last : ∀ (u : List UInt8) (a b : UInt8), a < b → Op.bytesLess (u ++ [a]) (u ++ [b]) = true
  | [], a, b, h => by simp [Op.bytesLess, h]
  | x :: u, a, b, h => by
    simp only [List.cons_append, Op.bytesLess, Bool.or_eq_true, Bool.and_eq_true]
    exact .inr ⟨by simp, less_last u a b h⟩
theorem less_trans : ∀ (u v w : List UInt8), Op.bytesLess u v = true → Op.bytesLess v w = true → Op.bytesLess u w = true
  | _, _, [], _, h => by simp [Op.bytesLess] at h
  | _, [], _ :: _, h, _ => by simp [Op.bytesLess] at h
  | [], _ :: _, _ :: _, _, _ => rfl
  | x :: u, y :: v, z :: w, h, k => by
    simp only [Op.bytesLess, Bool.or_eq_true, Bool.and_eq_true, decide_eq_true_eq, beq_iff_eq] at h k ⊢
    rcases h with h | ⟨rfl, h⟩ <;> rcases k with k | ⟨rfl, k⟩
    · exact .inl (UInt8.lt_trans h k)
    · exact .inl h
    · exact .inl k
    · exact .inr ⟨rfl, less_trans u v w h k⟩
theorem lt2_snoc {u v : List UInt8} (a b : UInt8) (h : lt2 u v) : lt2 (u ++ [a]) (v ++ [b]) := by
  rcases h with h | ⟨h1, h2⟩
  · exact .inl (by simpa using h)
  · exact .inr ⟨by simp [h1], less_snoc u v a b h1 h2⟩
theorem lt2_last (u : List UInt8) {a b : UInt8} (h : a < b) : lt2 (u ++ [a]) (u ++ [b]) := .inr ⟨by simp, less_last u a b h⟩
theorem lt2_trans {u v w : List UInt8} (h : lt2 u v) (k : lt2 v w) : lt2 u w := by
  rcases h with h | ⟨h1, h2⟩ <;> rcases k with k | ⟨k1, k2⟩
  · exact .inl (by omega)
  · exact .inl (by omega)
  · exact .inl (by omega)
  · exact .inr ⟨by omega, less_trans u v w h2 k2⟩
def le2 (u v : List UInt8) : Prop := lt2 u v ∨ u = v
theorem le2_snoc {u v : List UInt8} (a : UInt8) (h : le2 u v) : le2 (u ++ [a]) (v ++ [a]) := by
  rcases h with h | rfl
  · exact .inl (lt2_snoc a a h)
  · exact .inr rfl
theorem le2_trans {u v w : List UInt8} (h : le2 u v) (k : le2 v w) : le2 u w := by
  rcases h with h | rfl
  · rcases k with k | rfl
    · exact .inl (lt2_trans h k)
    · exact .inl h
  · exact k

/-! ### the search -/
abbrev FW := Int × ByteArray
def oneB (b : Nat) : ByteArray := ⟨([b].map UInt8.ofNat).toArray⟩
theorem cat_one (w : ByteArray) (b : Nat) : (w ++ oneB b).data.toList = w.data.toList ++ [UInt8.ofNat b] := by simp [oneB]
theorem cat_size (w : ByteArray) (b : Nat) : (w ++ oneB b).size = w.size + 1 := by
  rw [ByteArray.size_append]; rfl
def hasS (F : List FW) (t : Int) : Bool := F.any fun y => y.1 == t
def ex1 (o : Option AM) (x : FW) (F : List FW) (b : Nat) : List FW := if hasS F (stepM o x.1 b) then F else F ++ [(stepM o x.1 b, x.2 ++ oneB b)]
def exTo (o : Option AM) (x : FW) (F : List FW) (n : Nat) : List FW := (List.range n).foldl (ex1 o x) F
theorem exTo_succ (o : Option AM) (x : FW) (F : List FW) (n : Nat) : exTo o x F (n + 1) = ex1 o x (exTo o x F n) n := by
  unfold exTo; rw [List.range_succ, List.foldl_append]; rfl
theorem hasS_append (F G : List FW) (t : Int) : hasS (F ++ G) t = (hasS F t || hasS G t) := by simp [hasS]
theorem hasS_iff {F : List FW} {t : Int} : hasS F t = true ↔ ∃ y ∈ F, y.1 = t := by simp [hasS]
theorem ex1_has (o : Option AM) (x : FW) (F : List FW) (b : Nat) : hasS (ex1 o x F b) (stepM o x.1 b) = true := by
  unfold ex1
  split
  · assumption
  · rw [hasS_append]; simp [hasS]
theorem ex1_mono {o : Option AM} {x : FW} {F : List FW} {b : Nat} {t : Int} (h : hasS F t = true) : hasS (ex1 o x F b) t = true := by
  unfold ex1
  split
  · exact h
  · rw [hasS_append, h]; rfl
theorem fold_has {o : Option AM} {x : FW} {t : Int} : ∀ (l : List Nat) (F : List FW), hasS F t = true → hasS (l.foldl (ex1 o x) F) t = true
  | [], _, h => h
  | b :: l, F, h => fold_has l _ (ex1_mono h)
theorem fold_in {o : Option AM} {x : FW} {b : Nat} : ∀ (l : List Nat) (F : List FW), b ∈ l → hasS (l.foldl (ex1 o x) F) (stepM o x.1 b) = true
  | c :: l, F, h => by
    rcases List.mem_cons.1 h with rfl | h
    · exact fold_has l _ (ex1_has o x F b)
    · exact fold_in l _ h
theorem filter_mem : ∀ {ls : List Nat} {n : Nat}, ls.Pairwise (· < ·) → n ∈ ls → ls.filter (fun a => decide (a < n + 1)) = ls.filter (fun a => decide (a < n)) ++ [n]
  | a :: t, n, hp, hn => by
    rw [List.pairwise_cons] at hp
    rcases List.mem_cons.1 hn with rfl | hn
    · rw [List.filter_cons_of_pos (by simp), List.filter_cons_of_neg (by simp)]
      have e1 : t.filter (fun a => decide (a < n + 1)) = [] := List.filter_eq_nil_iff.2 fun b hb => by have := hp.1 b hb; simp; omega
      have e2 : t.filter (fun a => decide (a < n)) = [] := List.filter_eq_nil_iff.2 fun b hb => by have := hp.1 b hb; simp; omega
      rw [e1, e2]; rfl
    · have := hp.1 n hn
      rw [List.filter_cons_of_pos (by simp; omega), List.filter_cons_of_pos (by simp; omega), filter_mem hp.2 hn]; rfl
/-- The least bytes of the cells are enough. -/
theorem ls_all {o : Option AM} {ls : List Nat} (h : CellsOk o ls) {x : FW} (F : List FW) (h0 : 0 ≤ x.1) (h1 : x.1 < stN o) : ∀ n, n ≤ 256 → exTo o x F n = (ls.filter fun a => decide (a < n)).foldl (ex1 o x) F
  | 0, _ => by
    rw [List.filter_eq_nil_iff.2 fun b _ => by simp]; rfl
  | n + 1, hn => by
    rw [exTo_succ, ls_all h F h0 h1 n (by omega)]
    by_cases hm : n ∈ ls
    · rw [filter_mem h.up hm, List.foldl_append]; rfl
    · have e : ls.filter (fun a => decide (a < n + 1)) = ls.filter (fun a => decide (a < n)) := List.filter_congr fun a ha => by
        have : a ≠ n := fun e => hm (e ▸ ha)
        rw [decide_eq_decide]; omega
      rw [e]
      obtain ⟨k, c, hk, hb, -⟩ := h.part n (by omega)
      obtain ⟨l, hl, _, _, _⟩ := h.least k c hk
      obtain ⟨hln, hst⟩ := h.keeps k c l n hk hl (by omega) hb
      have hne : l ≠ n := fun e => hm (e ▸ List.mem_of_getElem? hl)
      have hin : l ∈ ls.filter (fun a => decide (a < n)) := List.mem_filter.2 ⟨List.mem_of_getElem? hl, by simp; omega⟩
      have := fold_in (o := o) (x := x) (b := l) _ F hin
      rw [← hst x.1 h0 h1] at this
      generalize (ls.filter fun a => decide (a < n)).foldl (ex1 o x) F = G at *
      unfold ex1
      rw [if_pos this]
theorem exC_eq {o : Option AM} {ls : List Nat} (h : CellsOk o ls) {x : FW} (F : List FW) (h0 : 0 ≤ x.1) (h1 : x.1 < stN o) : (cellsM o).foldl (fun F c => ex1 o x F (nextM c 0).1) F = exTo o x F 256 := by
  have e1 : (cellsM o).map (fun c => (nextM c 0).1) = ls := by
    apply List.ext_getElem?
    intro k
    rw [List.getElem?_map]
    cases hc : (cellsM o)[k]? with
    | none =>
      have := List.getElem?_eq_none_iff.1 hc
      rw [List.getElem?_eq_none (by rw [h.len]; exact this)]; rfl
    | some c =>
      obtain ⟨l, hl, _, hn, _⟩ := h.least k c hc
      rw [hl, ← hn]; rfl
  have hall : ls.filter (fun a => decide (a < 256)) = ls := List.filter_eq_self.2 fun a ha => by
    obtain ⟨k, hk⟩ := List.getElem?_of_mem ha
    have hkl := (List.getElem?_eq_some_iff.1 hk).1
    obtain ⟨c, hc⟩ := get_some (l := cellsM o) (k := k) (by rw [← h.len]; exact hkl)
    obtain ⟨l, hl, hlt, _⟩ := h.least k c hc
    rw [hk] at hl; cases hl
    simpa using hlt
  rw [ls_all h F h0 h1 256 (Nat.le_refl _), hall, ← e1, List.foldl_map]

/-- What has been found before the i-th is looked at. -/
def bfs (o : Option AM) : Nat → List FW
  | 0 => [(0, ⟨#[]⟩)]
  | i + 1 => match (bfs o i)[i]? with
    | none => bfs o i
    | some x => exTo o x (bfs o i) 256
/-- i have been looked at whole, of the next one the bytes before n. -/
structure BOk (o : Option AM) (i n : Nat) (F : List FW) : Prop where
  zero : F[0]? = some (0, ⟨#[]⟩)
  nd : (F.map (·.1)).Nodup
  rng : ∀ x ∈ F, 0 ≤ x.1 ∧ x.1 < stN o
  size : ∀ (j : Nat) (x : FW), F[j]? = some x → x.2.size ≤ j
  run : ∀ x ∈ F, runM o x.2 x.2.size = x.1
  closed : ∀ (j : Nat) (x : FW) (b : Nat), F[j]? = some x → b < 256 → (j < i ∨ (j = i ∧ b < n)) → ∃ y ∈ F, y.1 = stepM o x.1 b ∧ le2 y.2.data.toList (x.2.data.toList ++ [UInt8.ofNat b])
  up : ∀ (j k : Nat) (x y : FW), j < k → F[j]? = some x → F[k]? = some y → lt2 x.2.data.toList y.2.data.toList
  par : ∀ (k : Nat) (y : FW), F[k]? = some y → k = 0 ∨ ∃ (j b : Nat) (x : FW), F[j]? = some x ∧ y.2.data.toList = x.2.data.toList ++ [UInt8.ofNat b] ∧ b < 256 ∧ (j < i ∨ (j = i ∧ b < n))
theorem run_cat (o : Option AM) (w : ByteArray) {b : Nat} (hb : b < 256) : runM o (w ++ oneB b) (w ++ oneB b).size = stepM o (runM o w w.size) b := by
  have e1 : ∀ u : ByteArray, runM o u u.size = u.data.toList.foldl (fun q b => stepM o q b.toNat) 0 := fun u => by
    unfold runM
    rw [List.take_of_length_le (by rw [Array.length_toList]; exact Nat.le_refl _)]
  rw [e1, e1, cat_one, List.foldl_append]
  simp only [List.foldl_cons, List.foldl_nil]
  congr 1
  simp [Nat.mod_eq_of_lt hb]
/-- All that has been found comes ahead of what is looked at next. -/
theorem BOk.ahead {o : Option AM} {i n : Nat} {F : List FW} (h : BOk o i n F) {x : FW} (hx : F[i]? = some x) (hn : n < 256) {k : Nat} {y : FW} (hy : F[k]? = some y) : lt2 y.2.data.toList (x.2.data.toList ++ [UInt8.ofNat n]) := by
  rcases h.par k y hy with rfl | ⟨j, b, z, hz, e, hb, hj⟩
  · rw [h.zero] at hy
    cases hy
    exact .inl (by simp)
  · rw [e]
    rcases hj with hj | ⟨rfl, hbn⟩
    · exact lt2_snoc _ _ (h.up j i z x hj hz hx)
    · rw [hx] at hz; cases hz
      refine lt2_last _ ?_
      rw [UInt8.lt_iff_toNat_lt]
      simp [Nat.mod_eq_of_lt hb, Nat.mod_eq_of_lt hn]
      exact hbn
theorem BOk.ex {S : Nat → Prop} {o : Option AM} {i n : Nat} {F : List FW} (hst : ∀ (q : Int) (b : Nat), 0 ≤ q → q < stN o → b < 256 → 0 ≤ stepM o q b ∧ stepM o q b < stN o) (h : BOk o i n F) {x : FW} (hx : F[i]? = some x) (hn : n < 256) : BOk o i (n + 1) (ex1 o x F n) := by
  have hil := (List.getElem?_eq_some_iff.1 hx).1
  have wider : ∀ {j b : Nat}, (j < i ∨ (j = i ∧ b < n)) → (j < i ∨ (j = i ∧ b < n + 1)) := fun h => by omega
  unfold ex1
  split
  · rename_i hh
    refine ⟨h.zero, h.nd, h.rng, h.size, h.run, fun j z b hz hb hj => ?_, h.up, fun k y hy => ?_⟩
    · by_cases hold : j < i ∨ (j = i ∧ b < n)
      · exact h.closed j z b hz hb hold
      · obtain ⟨rfl, rfl⟩ : j = i ∧ b = n := by omega
        rw [hx] at hz; cases hz
        obtain ⟨y, hy, e⟩ := hasS_iff.1 hh
        obtain ⟨k, hk⟩ := List.getElem?_of_mem hy
        exact ⟨y, hy, e, .inl (h.ahead hx hn hk)⟩
    · rcases h.par k y hy with h0 | ⟨j, b, z, hz, e, hb, hj⟩
      · exact .inl h0
      · exact .inr ⟨j, b, z, hz, e, hb, wider hj⟩
  · rename_i hh
    have hxr := h.rng x (List.mem_of_getElem? hx)
    have hs := hst x.1 n hxr.1 hxr.2 hn
    have get : ∀ (j : Nat) (z : FW), (F ++ [(stepM o x.1 n, x.2 ++ oneB n)])[j]? = some z → F[j]? = some z ∨ (j = F.length ∧ z = (stepM o x.1 n, x.2 ++ oneB n)) := by
      intro j z hz
      by_cases hj : j < F.length
      · rw [List.getElem?_append_left hj] at hz; exact .inl hz
      · rw [List.getElem?_append_right (by omega)] at hz
        have := (List.getElem?_eq_some_iff.1 hz).1
        simp only [List.length_singleton] at this
        rw [show j - F.length = 0 by omega] at hz
        exact .inr ⟨by omega, by simpa using hz.symm⟩
    have old : ∀ (j : Nat) (z : FW), F[j]? = some z → (F ++ [(stepM o x.1 n, x.2 ++ oneB n)])[j]? = some z := fun j z hz => by
      rw [List.getElem?_append_left (List.getElem?_eq_some_iff.1 hz).1]; exact hz
    refine ⟨old 0 _ h.zero, ?_, fun z hz => ?_, fun j z hz => ?_, fun z hz => ?_, fun j z b hz hb hj => ?_, fun j k y z hjk hy hz => ?_, fun k y hy => ?_⟩
    · rw [List.map_append, List.nodup_append]
      refine ⟨h.nd, by simp, fun a ha c hc e => ?_⟩
      simp only [List.map_cons, List.map_nil, List.mem_singleton] at hc
      subst hc
      obtain ⟨y, hy, rfl⟩ := List.mem_map.1 ha
      exact hh (hasS_iff.2 ⟨y, hy, e⟩)
    · rcases List.mem_append.1 hz with hz | hz
      · exact h.rng z hz
      · rw [List.mem_singleton] at hz; subst hz; exact hs
    · rcases get j z hz with hz | ⟨rfl, rfl⟩
      · exact h.size j z hz
      · have := h.size i x hx
        simp only [cat_size]; omega
    · rcases List.mem_append.1 hz with hz | hz
      · exact h.run z hz
      · rw [List.mem_singleton] at hz; subst hz
        simp only [run_cat o x.2 hn]
        rw [h.run x (List.mem_of_getElem? hx)]
    · rcases get j z hz with hz' | ⟨rfl, rfl⟩
      · by_cases hold : j < i ∨ (j = i ∧ b < n)
        · obtain ⟨y, hy, r⟩ := h.closed j z b hz' hb hold
          exact ⟨y, List.mem_append_left _ hy, r⟩
        · obtain ⟨rfl, rfl⟩ : j = i ∧ b = n := by omega
          rw [hx] at hz'; cases hz'
          exact ⟨_, List.mem_append_right _ (List.mem_singleton.2 rfl), rfl, .inr (cat_one _ _)⟩
      · omega
    · rcases get k z hz with hz' | ⟨rfl, rfl⟩
      · have := (List.getElem?_eq_some_iff.1 hz').1
        rcases get j y hy with hy' | ⟨rfl, _⟩
        · exact h.up j k y z hjk hy' hz'
        · omega
      · rcases get j y hy with hy' | ⟨rfl, _⟩
        · simp only [cat_one]
          exact h.ahead hx hn hy'
        · omega
    · rcases get k y hy with hy' | ⟨rfl, rfl⟩
      · rcases h.par k y hy' with h0 | ⟨j, b, z, hz, e, hb, hj⟩
        · exact .inl h0
        · exact .inr ⟨j, b, z, old j z hz, e, hb, wider hj⟩
      · exact .inr ⟨i, n, x, old i x hx, cat_one _ _, hn, .inr ⟨rfl, Nat.lt_succ_self _⟩⟩

abbrev StepIn (o : Option AM) : Prop := ∀ (q : Int) (b : Nat), 0 ≤ q → q < stN o → b < 256 → 0 ≤ stepM o q b ∧ stepM o q b < stN o
theorem ex1_pre (o : Option AM) (x : FW) (F : List FW) (b : Nat) : F <+: ex1 o x F b := by
  unfold ex1
  split
  · exact List.prefix_refl _
  · exact List.prefix_append _ _
theorem pre_get {α : Type} {F G : List α} (h : F <+: G) {j : Nat} {x : α} (hx : F[j]? = some x) : G[j]? = some x := by
  obtain ⟨t, rfl⟩ := h
  rw [List.getElem?_append_left (List.getElem?_eq_some_iff.1 hx).1]; exact hx
theorem exTo_pre (o : Option AM) (x : FW) (F : List FW) : ∀ n, F <+: exTo o x F n
  | 0 => List.prefix_refl _
  | n + 1 => by rw [exTo_succ]; exact (exTo_pre o x F n).trans (ex1_pre _ _ _ _)
theorem BOk.to {o : Option AM} (hst : StepIn o) {i : Nat} {F : List FW} (h : BOk o i 0 F) {x : FW} (hx : F[i]? = some x) : ∀ n, n ≤ 256 → BOk o i n (exTo o x F n)
  | 0, _ => h
  | n + 1, hn => by
    rw [exTo_succ]
    exact (h.to hst hx n (by omega)).ex (S := fun _ => True) hst (pre_get (exTo_pre o x F n) hx) (by omega)
theorem BOk.next {o : Option AM} {i : Nat} {F : List FW} (h : BOk o i 256 F) : BOk o (i + 1) 0 F :=
  ⟨h.zero, h.nd, h.rng, h.size, h.run, fun j x b hx hb hj => h.closed j x b hx hb (by omega), h.up, fun k y hy => by
    rcases h.par k y hy with h0 | ⟨j, b, x, hx, e, hb, hj⟩
    · exact .inl h0
    · exact .inr ⟨j, b, x, hx, e, hb, by omega⟩⟩
theorem bfs_ok {o : Option AM} (hst : StepIn o) (hn : 1 ≤ stN o) : ∀ i, BOk o i 0 (bfs o i)
  | 0 => ⟨rfl, by simp [bfs], (fun x hx => by simp only [bfs, List.mem_singleton] at hx; subst hx; exact ⟨Int.le_refl _, by simp only; omega⟩), (fun j x hx => by
      have : j = 0 := by have := (List.getElem?_eq_some_iff.1 hx).1; simpa [bfs] using this
      subst this
      cases hx; exact Nat.le_refl _), (fun x hx => by simp only [bfs, List.mem_singleton] at hx; subst hx; rfl), fun j x b _ _ hj => by omega, fun j k x y hjk _ hy => by
      have := (List.getElem?_eq_some_iff.1 hy).1
      simp only [bfs, List.length_singleton] at this
      omega, fun k y hy => .inl (by have := (List.getElem?_eq_some_iff.1 hy).1; simpa [bfs] using this)⟩
  | i + 1 => by
    have ih := bfs_ok hst hn i
    unfold bfs
    split
    · rename_i hnone
      refine BOk.next ⟨ih.zero, ih.nd, ih.rng, ih.size, ih.run, fun j x b hx hb hj => ih.closed j x b hx hb ?_, ih.up, fun k y hy => ?_⟩
      · rcases hj with hj | ⟨rfl, _⟩
        · exact .inl hj
        · rw [hnone] at hx; cases hx
      · rcases ih.par k y hy with h0 | ⟨j, b, x, hx, e, hb, hj⟩
        · exact .inl h0
        · exact .inr ⟨j, b, x, hx, e, hb, by omega⟩
    · rename_i x hx
      exact (ih.to hst hx 256 (Nat.le_refl _)).next
theorem bfs_pre (o : Option AM) (i : Nat) : bfs o i <+: bfs o (i + 1) := by
  conv => rhs; unfold bfs
  split
  · exact List.prefix_refl _
  · exact exTo_pre _ _ _ _
theorem bfs_mono (o : Option AM) (i : Nat) : ∀ k, bfs o i <+: bfs o (i + k)
  | 0 => List.prefix_refl _
  | k + 1 => (bfs_mono o i k).trans (bfs_pre o (i + k))
theorem bfs_stop (o : Option AM) {i : Nat} (h : (bfs o i).length ≤ i) : ∀ k, bfs o (i + k) = bfs o i
  | 0 => rfl
  | k + 1 => by
    have ih := bfs_stop o h k
    rw [← Nat.add_assoc, show bfs o (i + k + 1) = (match (bfs o (i + k))[i + k]? with
      | none => bfs o (i + k)
      | some x => exTo o x (bfs o (i + k)) 256) from rfl, ih, List.getElem?_eq_none (by omega)]
theorem nodup_len : ∀ (n : Nat) (l : List Int), l.Nodup → (∀ x ∈ l, 0 ≤ x ∧ x < (n : Int)) → l.length ≤ n
  | 0, l, _, h => by
    cases l with
    | nil => exact Nat.le_refl _
    | cons x l => have := h x List.mem_cons_self; omega
  | n + 1, l, hd, h => by
    have h1 := nodup_len n (l.filter fun x => decide (x < (n : Int))) (hd.filter _) (fun x hx => by
      obtain ⟨h1, h2⟩ := List.mem_filter.1 hx
      exact ⟨(h x h1).1, by simpa using h2⟩)
    have h2 : l.length ≤ (l.filter fun x => decide (x < (n : Int))).length + 1 := by
      clear h1
      induction l with
      | nil => simp
      | cons x l ih =>
        rw [List.nodup_cons] at hd
        by_cases hx : x < (n : Int)
        · rw [List.filter_cons_of_pos (by simpa using hx)]
          have := ih hd.2 (fun y hy => h y (List.mem_cons_of_mem _ hy))
          simp only [List.length_cons]; omega
        · rw [List.filter_cons_of_neg (by simpa using hx)]
          have hxn : x = (n : Int) := by have := h x List.mem_cons_self; omega
          have : l.filter (fun x => decide (x < (n : Int))) = l := List.filter_eq_self.2 fun y hy => by
            have h3 := h y (List.mem_cons_of_mem _ hy)
            have : y ≠ x := fun e => hd.1 (e ▸ hy)
            rw [decide_eq_true_eq]; omega
          rw [this]; simp
    omega
theorem BOk.len {o : Option AM} {i n : Nat} {F : List FW} (h : BOk o i n F) : F.length ≤ stN o := by
  have := nodup_len (stN o) (F.map (·.1)) h.nd (fun x hx => by
    obtain ⟨y, hy, rfl⟩ := List.mem_map.1 hx
    exact h.rng y hy)
  simpa using this

/-- The first member. -/
def leastM (o : Option AM) : Option ByteArray := ((bfs o (stN o)).find? fun x => finM o x.1).map (·.2)
theorem bfs_to {o : Option AM} {i : Nat} (hi : i ≤ stN o) : bfs o i <+: bfs o (stN o) := by
  obtain ⟨k, hk⟩ : ∃ k, stN o = i + k := ⟨stN o - i, by omega⟩
  rw [hk]; exact bfs_mono o i k
theorem least_some {o : Option AM} {i : Nat} {x : FW} (hi : i ≤ stN o) (hx : (bfs o i)[i]? = some x) (hf : finM o x.1 = true) (hno : ∀ (j : Nat) (y : FW), j < i → (bfs o i)[j]? = some y → finM o y.1 = false) : leastM o = some x.2 := by
  have hp := bfs_to hi
  have h1 : (bfs o (stN o)).find? (fun x => finM o x.1) = some x := by
    rw [List.find?_eq_some_iff_getElem]
    have hx' := pre_get hp hx
    have hil := (List.getElem?_eq_some_iff.1 hx).1
    obtain ⟨hlt, e⟩ := List.getElem?_eq_some_iff.1 hx'
    refine ⟨hf, i, hlt, e, fun j hj => ?_⟩
    obtain ⟨y, hy⟩ := get_some (l := bfs o i) (k := j) (by omega)
    have := (List.getElem?_eq_some_iff.1 (pre_get hp hy)).2
    rw [this, hno j y hj hy]; rfl
  unfold leastM
  rw [h1]; rfl
theorem least_none {o : Option AM} {i : Nat} (hi : i ≤ stN o) (hl : (bfs o i).length ≤ i) (hno : ∀ (j : Nat) (y : FW), (bfs o i)[j]? = some y → finM o y.1 = false) : leastM o = none := by
  obtain ⟨k, hk⟩ : ∃ k, stN o = i + k := ⟨stN o - i, by omega⟩
  unfold leastM
  rw [hk, bfs_stop o hl k, List.find?_eq_none.2 (fun y hy => by
    obtain ⟨j, hj⟩ := List.getElem?_of_mem hy
    rw [hno j y hj]; decide)]
  rfl
/-- Every state that a text leads to has been found, by no later word. -/
theorem bfs_all {o : Option AM} (hst : StepIn o) (hn : 1 ≤ stN o) (s : ByteArray) : ∀ k, k ≤ s.size → ∃ y ∈ bfs o (stN o), y.1 = runM o s k ∧ le2 y.2.data.toList (s.data.toList.take k)
  | 0, _ => ⟨(0, ⟨#[]⟩), List.mem_of_getElem? (bfs_ok hst hn _).zero, rfl, .inr rfl⟩
  | k + 1, hk => by
    have hok := bfs_ok hst hn (stN o)
    obtain ⟨x, hx, e, hle⟩ := bfs_all hst hn s k (by omega)
    obtain ⟨j, hj⟩ := List.getElem?_of_mem hx
    obtain ⟨b, hb⟩ := get_byte (s := s) (k := k) (by omega)
    have hjl := (List.getElem?_eq_some_iff.1 hj).1
    have := hok.len
    obtain ⟨y, hy, e2, hle2⟩ := hok.closed j x b.toNat hj (UInt8.toNat_lt b) (.inl (by omega))
    refine ⟨y, hy, by rw [e2, e, runM_succ hb], le2_trans hle2 ?_⟩
    have hb' : s.data.toList[k]? = some b := by rw [Array.getElem?_toList]; exact hb
    rw [take_succ_snoc hb', UInt8.ofNat_toNat]
    exact le2_snoc b hle
theorem least_law {o : Option AM} (hst : StepIn o) (hn : 1 ≤ stN o) : (∀ w, leastM o = some w → acceptsM o w = true ∧ w.size ≤ stN o) ∧ ∀ s : ByteArray, acceptsM o s = true → ∃ w, leastM o = some w ∧ le2 w.data.toList s.data.toList := by
  have hok := bfs_ok hst hn (stN o)
  refine ⟨fun w hw => ?_, fun s hs => ?_⟩
  · unfold leastM at hw
    obtain ⟨x, hx, rfl⟩ := Option.map_eq_some_iff.1 hw
    have hm := List.mem_of_find?_eq_some hx
    have hf := List.find?_some hx
    obtain ⟨j, hj⟩ := List.getElem?_of_mem hm
    have h1 := hok.size j x hj
    have h2 := (List.getElem?_eq_some_iff.1 hj).1
    have h3 := hok.len
    refine ⟨?_, by omega⟩
    unfold acceptsM
    rw [hok.run x hm]; exact hf
  · obtain ⟨y, hy, e, hle⟩ := bfs_all hst hn s s.size (Nat.le_refl _)
    rw [List.take_of_length_le (by rw [Array.length_toList]; exact Nat.le_refl _)] at hle
    have hf : finM o y.1 = true := by rw [e]; exact hs
    cases hfd : (bfs o (stN o)).find? (fun x => finM o x.1) with
    | none =>
      have := List.find?_eq_none.1 hfd y hy
      rw [hf] at this; exact absurd rfl this
    | some x =>
      refine ⟨x.2, by unfold leastM; rw [hfd]; rfl, le2_trans ?_ hle⟩
      obtain ⟨_, i, hi, hxe, hbef⟩ := List.find?_eq_some_iff_getElem.1 hfd
      obtain ⟨j, hj⟩ := List.getElem?_of_mem hy
      have hjl := (List.getElem?_eq_some_iff.1 hj).1
      have hje := (List.getElem?_eq_some_iff.1 hj).2
      rcases Nat.lt_trichotomy i j with h | h | h
      · exact .inl (hok.up i j x y h (by rw [List.getElem?_eq_getElem hi, hxe]) hj)
      · subst h; rw [← hxe, hje]; exact .inr rfl
      · have := hbef j h
        rw [hje, hf] at this; cases this
theorem live_found {o : Option AM} {ls : List Nat} (hc : CellsOk o ls) (hst : StepIn o) (hn : 1 ≤ stN o) {A : AM} (ho : o = some A) (hok : A.Ok) : ∀ {q : Nat}, LiveT A.next A.final q → ∀ y ∈ bfs o (stN o), y.1 = (q : Int) → ∃ z ∈ bfs o (stN o), finM o z.1 = true := by
  intro q h
  induction h with
  | fin hf =>
    intro y hy e
    refine ⟨y, hy, ?_⟩
    subst ho
    rw [e]
    simp [finM, hf]
  | step hrow ht hl ih =>
    rename_i q t row
    intro y hy e
    have hb := bfs_ok hst hn (stN o)
    obtain ⟨j, hj⟩ := List.getElem?_of_mem hy
    have hjl := (List.getElem?_eq_some_iff.1 hj).1
    have := hb.len
    obtain ⟨c, hcr⟩ := List.getElem?_of_mem ht
    have hcl := (List.getElem?_eq_some_iff.1 hcr).1
    have hrl := (hok.rows row (List.mem_of_getElem? hrow)).1
    obtain ⟨b, hb256, hbc⟩ := hc.cols A ho c (by omega)
    obtain ⟨z, hz, e2, _⟩ := hb.closed j y b hj hb256 (.inl (by omega))
    refine ih z hz ?_
    rw [e2, e]
    have hq := (List.getElem?_eq_some_iff.1 hrow).1
    subst ho
    unfold stepM
    rw [if_neg (by simp [stN]; omega)]
    simp only [Int.toNat_natCast, hrow, List.getD_eq_getElem?_getD, hbc, Option.getD_some, hcr]
theorem alive_least {o : Option AM} {ls : List Nat} (hc : CellsOk o ls) (hst : StepIn o) (hn : 1 ≤ stN o) (hok : ∀ A, o = some A → A.Ok) : aliveM o 0 = (leastM o).isSome := by
  cases hl : leastM o with
  | some w =>
    have hw := ((least_law hst hn).1 w hl).1
    cases o with
    | none => simp [acc_none] at hw
    | some A => exact acc_alive (hok A rfl) hw 0 (Nat.zero_le _)
  | none =>
    cases o with
    | none => rfl
    | some A =>
      simp only [aliveM, Option.isSome_none]
      rw [decide_eq_false_iff_not]
      intro hlive
      obtain ⟨z, hz, hf⟩ := live_found hc hst hn rfl (hok A rfl) hlive (0, ⟨#[]⟩) (List.mem_of_getElem? (bfs_ok hst hn _).zero) rfl
      unfold leastM at hl
      rw [Option.map_eq_none_iff] at hl
      have := List.find?_eq_none.1 hl z hz
      exact this hf
end Go.Proofs.Ytkgmhkcncemmkaa
