/- The law FilesKept: what it asks of lists of files, plain; files compared. -/
import Derived.Test.YtfdlhakfmbdamaaDoorPFd4
set_option linter.unusedVariables false
set_option linter.unusedSimpArgs false
set_option maxRecDepth 100000
namespace Go.Proofs.YtfdlhakfmbdamaaDoor
open Go.VC
def oth (n : ByteArray) (l : List (ByteArray × ByteArray)) : List (ByteArray × ByteArray) := l.filter fun p => !decide (p.1 = n)
theorem oth_snoc (n : ByteArray) (l : List (ByteArray × ByteArray)) (p : ByteArray × ByteArray) : oth n (l ++ [p]) = oth n l ++ if p.1 = n then [] else [p] := by
  unfold oth
  rw [List.filter_append]
  by_cases h : p.1 = n <;> simp [h]
theorem oth_lay (n d : ByteArray) : ∀ l : List (ByteArray × ByteArray), oth n (layM l n d) = oth n l
  | [] => by simp [layM, oth]
  | p :: r => by
    unfold layM
    by_cases hl : ltT p.1 n = true
    · rw [if_pos hl]
      have := oth_lay n d r
      unfold oth at this ⊢
      rw [List.filter_cons, List.filter_cons, this]
    · rw [if_neg hl]
      by_cases he : p.1 = n
      · rw [if_pos he]
        unfold oth
        rw [List.filter_cons, List.filter_cons]
        simp [he]
      · rw [if_neg he]
        unfold oth
        rw [List.filter_cons (x := (n, d))]
        simp
/-- Where the walk over before stands. -/
theorem oth_stop {n : ByteArray} {l m : List (ByteArray × ByteArray)} {i j : Nat} {p : ByteArray × ByteArray} (h : oth n l = oth n m) (hj : oth n (l.take j) = oth n (m.take i)) (hp : m[i]? = some p) (hpn : p.1 ≠ n) (hst : ∀ q, l[j]? = some q → q.1 ≠ n) : l[j]? = some p := by
  have hm : m = m.take i ++ p :: m.drop (i + 1) := by
    have h1 := (List.take_append_drop i m).symm
    rw [List.drop_eq_getElem_cons (List.getElem?_eq_some_iff.1 hp).1] at h1
    rw [(List.getElem?_eq_some_iff.1 hp).2] at h1
    exact h1
  have hl := (List.take_append_drop j l).symm
  have e1 : oth n l = oth n (l.take j) ++ oth n (l.drop j) := by
    conv => lhs; rw [hl]
    unfold oth; rw [List.filter_append]
  have e2 : oth n m = oth n (m.take i) ++ p :: oth n (m.drop (i + 1)) := by
    conv => lhs; rw [hm]
    unfold oth; rw [List.filter_append, List.filter_cons]; simp [hpn]
  rw [e1, e2, hj] at h
  have h2 := List.append_cancel_left h
  cases hd : l.drop j with
  | nil =>
    rw [hd] at h2
    simp [oth] at h2
  | cons q r =>
    have hq : l[j]? = some q := by
      have := List.getElem?_drop (xs := l) (i := j) (j := 0)
      rw [hd] at this
      simpa using this.symm
    have hqn := hst q hq
    rw [hd] at h2
    unfold oth at h2
    rw [List.filter_cons] at h2
    simp only [hqn, decide_false, Bool.not_false, if_true] at h2
    have : q = p := (List.cons.inj h2).1
    rw [hq, this]
theorem oth_end {n : ByteArray} {l m : List (ByteArray × ByteArray)} {j : Nat} (h : oth n l = oth n m) (hj : oth n (l.take j) = oth n m) (hjl : j ≤ l.length) (hst : ∀ q, l[j]? = some q → q.1 ≠ n) : j = l.length := by
  by_cases hlt : j < l.length
  · exfalso
    obtain ⟨q, hq⟩ : ∃ q, l[j]? = some q := ⟨l[j], List.getElem?_eq_getElem hlt⟩
    have hqn := hst q hq
    have hl := (List.take_append_drop j l).symm
    have hd : l.drop j = q :: l.drop (j + 1) := by
      rw [List.drop_eq_getElem_cons hlt, (List.getElem?_eq_some_iff.1 hq).2]
    have e1 : oth n l = oth n (l.take j) ++ q :: oth n (l.drop (j + 1)) := by
      conv => lhs; rw [hl, hd]
      unfold oth; rw [List.filter_append, List.filter_cons]; simp [hqn]
    rw [e1, hj] at h
    have := congrArg List.length h
    simp at this
  · omega
theorem look_snoc (l : List (ByteArray × ByteArray)) (p : ByteArray × ByteArray) (n : ByteArray) : lookF (l ++ [p]) n = (lookF l n).or (if p.1 = n then some p.2 else none) := by
  unfold lookF
  rw [List.find?_append]
  cases h : l.find? (fun q => decide (q.1 = n)) with
  | some q => simp
  | none =>
    by_cases hp : p.1 = n <;> simp [hp, List.find?_cons]
/-- In a rising list a name stands once. -/
theorem look_before {l : List (ByteArray × ByteArray)} (h : Rise l) {k : Nat} {p : ByteArray × ByteArray} (hp : l[k]? = some p) : lookF (l.take k) p.1 = none := by
  rw [lookF_none]
  intro hm
  obtain ⟨q, hq, he⟩ := List.mem_map.1 hm
  obtain ⟨j, hj⟩ := List.getElem?_of_mem hq
  have hjk : j < k := by
    have := (List.getElem?_eq_some_iff.1 hj).1
    rw [List.length_take] at this
    omega
  rw [List.getElem?_take_of_lt hjk] at hj
  have h1 := List.pairwise_iff_getElem.1 h j k (List.getElem?_eq_some_iff.1 hj).1 (List.getElem?_eq_some_iff.1 hp).1 hjk
  rw [(List.getElem?_eq_some_iff.1 hj).2, (List.getElem?_eq_some_iff.1 hp).2, he, ltT_irr] at h1
  cases h1
theorem look_step {l : List (ByteArray × ByteArray)} (h : Rise l) {k : Nat} {p : ByteArray × ByteArray} {n : ByteArray} (hp : l[k]? = some p) : (p.1 = n → dataM (l.take (k + 1)) n = p.2 ∧ (lookF (l.take (k + 1)) n).isSome = true) ∧ (p.1 ≠ n → dataM (l.take (k + 1)) n = dataM (l.take k) n ∧ (lookF (l.take (k + 1)) n).isSome = (lookF (l.take k) n).isSome) := by
  have htk : l.take (k + 1) = l.take k ++ [p] := by rw [List.take_add_one, hp]; rfl
  unfold dataM
  rw [htk, look_snoc]
  refine ⟨fun e => ?_, fun e => ?_⟩
  · subst e
    rw [look_before h hp, if_pos rfl]
    exact ⟨rfl, rfl⟩
  · rw [if_neg e]
    simp
theorem rise_step {l : List (ByteArray × ByteArray)} (h : Rise l) {k : Nat} {p q : ByteArray × ByteArray} (hp : l[k]? = some p) (hq : l[k + 1]? = some q) : ltT p.1 q.1 = true := by
  have h1 := List.pairwise_iff_getElem.1 h k (k + 1) (List.getElem?_eq_some_iff.1 hp).1 (List.getElem?_eq_some_iff.1 hq).1 (by omega)
  rw [(List.getElem?_eq_some_iff.1 hp).2, (List.getElem?_eq_some_iff.1 hq).2] at h1
  exact h1
/-- What a Write leaves. -/
theorem write_fs {x : Fs} (h : FsOk x.files) {n d : ByteArray} (hd : d.size ≤ maxLen) : FsOk (writeM x n d).2 ∧ oth n (writeM x n d).2 = oth n x.files ∧
    ((writeM x n d).1 = 0 → lookF (writeM x n d).2 n = some d) ∧
    ((writeM x n d).1 ≠ 0 → (writeM x n d).2 = x.files ∨ ∃ k, k ≤ d.size ∧ lookF (writeM x n d).2 n = some (d.extract 0 k)) ∧
    ((lookF x.files n).isSome = true → (lookF (writeM x n d).2 n).isSome = true) ∧ (writeM x n d).1 ≤ 4 := by
  have hlk : ∀ d', lookF (layM x.files n d') n = some d' := fun d' => by rw [lookF_lay, if_pos rfl]
  unfold writeM
  by_cases hg : goodM n = false
  · rw [if_pos hg]
    exact ⟨h, rfl, fun h => (by cases h), fun _ => .inl rfl, fun h => h, Nat.le_refl 4⟩
  · rw [if_neg hg]
    by_cases hr : roomM x.files n = false
    · rw [if_pos hr]
      exact ⟨h, rfl, fun h => (by cases h), fun _ => .inl rfl, fun h => h, Nat.le_succ 3⟩
    · rw [if_neg hr]
      have hg' : goodM n = true := by simpa using hg
      have hr' : roomM x.files n = true := by simpa using hr
      cases lookB x.fails true ((x.writes + 1 : Nat) : Int) with
      | none => exact ⟨h.lay (good_len hg') hd hr', oth_lay _ _ _, fun _ => hlk d, fun h => absurd rfl h, fun _ => by simp only [hlk]; rfl, Nat.zero_le 4⟩
      | some f =>
        simp only
        unfold keepM
        by_cases hk : 0 ≤ f.2.2
        · rw [if_pos hk]
          refine ⟨h.lay (good_len hg') (by simp only [ByteArray.size_extract]; omega) hr', oth_lay _ _ _, fun h => (by cases h), fun _ => .inr ⟨min f.2.2.toNat d.size, Nat.min_le_right _ _, hlk _⟩, fun _ => by rw [hlk]; rfl, by show 2 ≤ 4; omega⟩
        · rw [if_neg hk]
          exact ⟨h, rfl, fun h => (by cases h), fun _ => .inl rfl, fun h => h, by show 2 ≤ 4; omega⟩
/-! ### files compared -/
def fileLits (p : ByteArray × ByteArray) : List Lit := [.string p.1.data.toList, .string p.2.data.toList]
theorem file_lits {p : ByteArray × ByteArray} (h1 : p.1.size ≤ maxLen) (h2 : p.2.size ≤ maxLen) : Tryd.prog.keyLits 3 33 (fileL p) = some (fileLits p) := by
  have c0 : Tryd.prog.cellsOf 33 = 2 := by kernel_rfl
  have c3 : Tryd.prog.cellsOf 9 = 1 := by kernel_rfl
  simp [Program.keyLits, Tryd.underlying33, Tryd.underlying9, c0, c3, fileL, fileLits, h1, h2]
theorem file_same {p : ByteArray × ByteArray} (h1 : p.1.size ≤ maxLen) (h2 : p.2.size ≤ maxLen) {x y : Operand} {S : Nat → Prop} {H : Heap} {K : Value → Prop} (k : K (.bool false)) :
    VDet Tryd.prog (do eqGuard .neq 33 x y (.agg (fileL p).toArray) (.agg (fileL p).toArray); binOp .neq 33 (.agg (fileL p).toArray) (.agg (fileL p).toArray)) S H K :=
  vneq (m := 2) (la := fileLits p) (lb := fileLits p) (r := true) (by kernel_rfl) (by decide) (Tryd.eqGuardType33) rfl rfl (file_lits h1 h2) (file_lits h1 h2) ⟨fun _ => rfl, fun _ => rfl⟩ k
end Go.Proofs.YtfdlhakfmbdamaaDoor
