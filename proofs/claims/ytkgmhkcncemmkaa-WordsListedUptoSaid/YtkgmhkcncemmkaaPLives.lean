/- The law DfaLives: its walk. -/
import Derived.Test.YtkgmhkcncemmkaaPTabs
set_option linter.unusedVariables false
set_option linter.unusedSimpArgs false
set_option maxRecDepth 100000
namespace Go.Proofs.Ytkgmhkcncemmkaa
open Go.VC
attribute [local irreducible] mRun

def autoOf (cells : List (BitVec 256)) (next : List (List Int)) (final : List Bool) : Option AM := if soundB cells next final.length then some (madeM cells next final) else none
/-- What a table that is handed in says of memory. -/
structure TabIn (S : Nat → Prop) (H : Heap) (v : Value) (cells : List (BitVec 256)) (next : List (List Int)) (final : List Bool) : Prop where
  lt : ∀ k, S k → k < H.size
  rep : ∃ ca na fa cc nc fc, v = .agg #[.slice ca cells.length cc, .slice na next.length nc, .slice fa final.length fc] ∧ SlD tSet S H ca cc cells ∧ SlD tRows S H na nc next ∧ SlD tBool S H fa fc final
  cn : cells.length ≤ 1048576
  nn : next.length ≤ 1048576
  rn : ∀ row ∈ next, row.length ≤ 1048576
  fn : final.length ≤ 1048576
theorem vcall_new {cells : List (BitVec 256)} {next : List (List Int)} {final : List Bool} {S : Nat → Prop} {H : Heap} {K : Value → Heap → Prop} {ca na fa : Option Addr} {cc nc fc : Nat} (hS : ∀ k, S k → k < H.size)
    (hc : SlD tSet S H ca cc cells) (hn : SlD tRows S H na nc next) (hf : SlD tBool S H fa fc final)
    (h : ∀ v H', Agr (Old H) H H' → H.size ≤ H'.size → AutoV (Fresh H H') H' v (autoOf cells next final) → K v H') :
    VCall Try.prog 39 #[.slice ca cells.length cc, .slice na next.length nc, .slice fa final.length fc] H K :=
  VCall.mk (new_c ca na fa cc nc fc cells next final S H hS hc hn hf) fun v H' ⟨h1, h2, h3⟩ => h v H' h1 h2 h3
theorem vcall_newO {cells : List (BitVec 256)} {next : List (List Int)} {final : List Bool} {H : Heap} {K : Value → Heap → Prop} {nb lo1 lo2 : Nat} {v1 v3 : Value} {vs : List Value}
    (h1 : SlO tSet (fun _ => False) H lo1 78 v1 cells) (h2 : Tab tI (fun _ => False) H (nb + 1) 3 nb 36 vs next) (h3 : SlO tBool (fun _ => False) H lo2 4 v3 final)
    (hm : next.length ≤ maxLen)
    (h : ∀ v H', Agr (Old H) H H' → H.size ≤ H'.size → AutoV (Fresh H H') H' v (autoOf cells next final) → K v H') :
    VCall Try.prog 39 #[v1, .slice (some ⟨nb, 0, none⟩) next.length next.length, v3] H K := by
  obtain ⟨ca, cc, rfl, hc, -⟩ := h1.view (S' := Old H) (fun k hk => (h1.lt hk).2) (fun k hk => hk.elim)
  obtain ⟨fa, fc, rfl, hf, -⟩ := h3.view (S' := Old H) (fun k hk => (h3.lt hk).2) (fun k hk => hk.elim)
  exact vcall_new (S := Old H) (fun k hk => hk) hc (h2.view rfl hm (fun k _ hk => hk) (fun k hk => hk.elim)) hf h
theorem ends_c {fa : Option Addr} {fc : Nat} {final : List Bool} {S : Nat → Prop} {H : Heap} {K : Value → Heap → Prop} {q : Nat} (hq : Blk H q 4 []) (hS : ∀ k, S k → k < H.size ∧ k ≠ q) (hf : SlD tBool S H fa fc final) (hn : final.length ≤ 4194304)
    (h : ∀ v H', SlO tBool (fun _ => False) H' q 4 v final → Agr (fun k => k < H.size ∧ k ≠ q) H H' → H.size ≤ H'.size → K v H') :
    VEff Try.prog (Builtin.append_ #[24, 24] 24 [.slice (some ⟨q, 0, none⟩) 0 0, .slice fa final.length fc].toArray) H K := by
  have hqb : ∀ j, slB (.slice (some ⟨q, 0, none⟩) 0 0) j → j = q := by rintro j ⟨o, n, c, e⟩; cases e; rfl
  refine vappendD (T := tBool) (S := S) (lo := q) (xs := []) sl24 tBool_ones (SlO.empty (Nat.le_refl _) hq) (Nat.le_of_lt hq.lt) (fun j hj => ⟨(hS j hj).1, fun hb => (hS j hj).2 (hqb j hb)⟩) hf (by simp only [maxLen, List.length_nil]; omega) (by simp only [List.length_nil]; omega) ?_
  intro v H' h1 h2 h3 h4
  rw [List.nil_append] at h1
  exact h v H' (h1.free tBool_free) (h2.mono fun j hj => ⟨hj.1, fun hb => hj.2 (hqb j hb)⟩) h3

/-! ### the plain law -/
theorem runM_congr {o : Option AM} {s t : ByteArray} {k : Nat} (h : s.data.toList.take k = t.data.toList.take k) : runM o s k = runM o t k := by unfold runM; rw [h]
theorem bytes_list (s t : ByteArray) : (s ++ t).data.toList = s.data.toList ++ t.data.toList := by simp
theorem ext_list (s : ByteArray) (n : Nat) : (s.extract 0 n).data.toList = s.data.toList.take n := by simp
theorem ext_size (s : ByteArray) {n : Nat} (h : n ≤ s.size) : (s.extract 0 n).size = n := by simp; omega
theorem runM_cat {o : Option AM} (s t : ByteArray) {k : Nat} (h : k ≤ s.size) : runM o (s ++ t) k = runM o s k := by
  apply runM_congr
  rw [bytes_list, List.take_append_of_le_length (by simpa using h)]
theorem runM_ext {o : Option AM} (s : ByteArray) {n k : Nat} (h : k ≤ n) : runM o (s.extract 0 n) k = runM o s k := by
  apply runM_congr
  rw [ext_list, List.take_take, Nat.min_eq_left h]
section
open Classical
theorem alive_step {A : AM} (hok : A.Ok) {q : Int} {b : Nat} (h0 : 0 ≤ q) (h1 : q < A.next.length) (hb : b < 256) (h : aliveM (some A) (stepM (some A) q b) = true) : aliveM (some A) q = true := by
  obtain ⟨n, rfl⟩ := Int.eq_ofNat_of_zero_le h0
  obtain ⟨row, hrow⟩ := get_some (l := A.next) (k := n) (by omega)
  obtain ⟨c, hc⟩ := get_some (l := A.cell) (k := b) (by rw [hok.cell]; exact hb)
  have hrl := hok.rows row (List.mem_of_getElem? hrow)
  have hcp := hok.places c (List.mem_of_getElem? hc)
  obtain ⟨t, ht⟩ := get_some (l := row) (k := c) (by omega)
  obtain ⟨t', rfl⟩ := Int.eq_ofNat_of_zero_le (hrl.2 t (List.mem_of_getElem? ht)).1
  have hst : stepM (some A) n b = (t' : Int) := by
    unfold stepM
    rw [if_neg (by simp [stN]; omega)]
    simp only [Int.toNat_natCast, hrow, List.getD_eq_getElem?_getD, hc, Option.getD_some, ht]
  rw [hst] at h
  simp only [aliveM, decide_eq_true_eq, Int.toNat_natCast] at h ⊢
  exact .step hrow (List.mem_of_getElem? ht) h
theorem alive_final {A : AM} {q : Int} (h : finM (some A) q = true) : aliveM (some A) q = true := by
  simp only [finM, Bool.and_eq_true, decide_eq_true_eq] at h
  simp only [aliveM, decide_eq_true_eq]
  refine .fin ?_
  cases hf : A.final[q.toNat]? with
  | none => rw [hf] at h; simp at h
  | some f => rw [hf] at h; simp at h; rw [h.2]
theorem acc_alive {A : AM} (hok : A.Ok) {s : ByteArray} (h : acceptsM (some A) s = true) : ∀ k, k ≤ s.size → aliveM (some A) (runM (some A) s k) = true := by
  have key : ∀ j, j ≤ s.size → aliveM (some A) (runM (some A) s (s.size - j)) = true := by
    intro j
    induction j with
    | zero => intro _; rw [Nat.sub_zero]; exact alive_final h
    | succ j ih =>
      intro hj
      have h1 := ih (by omega)
      obtain ⟨b, hb⟩ := get_byte (s := s) (k := s.size - (j + 1)) (by omega)
      rw [show s.size - j = s.size - (j + 1) + 1 by omega, runM_succ hb] at h1
      obtain ⟨h2, h3⟩ := runM_range hok s (s.size - (j + 1)) (by omega)
      exact alive_step hok h2 h3 (UInt8.toNat_lt b) h1
  intro k hk
  have := key (s.size - k) (by omega)
  rwa [show s.size - (s.size - k) = k by omega] at this
end
theorem liveM_dead {o : Option AM} {s : ByteArray} (h : aliveM o 0 = false) : liveM o s = 0 := by unfold liveM; rw [h]; rfl
theorem liveM_some {o : Option AM} {s : ByteArray} {n : Nat} (h : aliveM o 0 = true) (hn : n < s.size) (h1 : aliveM o (runM o s (n + 1)) = false) (h2 : ∀ i, i < n → aliveM o (runM o s (i + 1)) = true) : liveM o s = n := by
  have h3 : ((List.range s.size).find? fun i => !aliveM o (runM o s (i + 1))) = some n := by
    rw [List.find?_range_eq_some]
    exact ⟨by simp [h1], by simp; omega, fun j hj => by simp [h2 j hj]⟩
  simp only [liveM, h, if_true, h3, Option.getD_some]
theorem liveM_all {o : Option AM} {s : ByteArray} (h : aliveM o 0 = true) (h2 : ∀ i, i < s.size → aliveM o (runM o s (i + 1)) = true) : liveM o s = s.size := by
  have h3 : ((List.range s.size).find? fun i => !aliveM o (runM o s (i + 1))) = none := by
    rw [List.find?_range_eq_none]
    intro i hi
    simp [h2 i hi]
  simp only [liveM, h, if_true, h3, Option.getD_none]
theorem least_ex {p : Nat → Prop} (h : ∃ n, p n) : ∃ n, p n ∧ ∀ m, m < n → ¬ p m := by
  obtain ⟨n, hn⟩ := h
  induction n using Nat.strongRecOn with
  | ind n ih =>
    by_cases hx : ∃ m, m < n ∧ p m
    · obtain ⟨m, h1, h2⟩ := hx
      exact ih m h1 h2
    · exact ⟨n, hn, fun m hm hp => hx ⟨m, hm, hp⟩⟩
theorem liveM_cases {o : Option AM} (s : ByteArray) (h : aliveM o 0 = true) : (liveM o s = s.size ∧ ∀ i, i < s.size → aliveM o (runM o s (i + 1)) = true) ∨ (liveM o s < s.size ∧ aliveM o (runM o s (liveM o s + 1)) = false ∧ ∀ i, i < liveM o s → aliveM o (runM o s (i + 1)) = true) := by
  by_cases hall : ∀ i, i < s.size → aliveM o (runM o s (i + 1)) = true
  · exact .inl ⟨liveM_all h hall, hall⟩
  · have hex : ∃ i, i < s.size ∧ aliveM o (runM o s (i + 1)) = false := by
      simp only [Classical.not_forall, Bool.not_eq_true] at hall
      obtain ⟨i, hi, h1⟩ := hall
      exact ⟨i, hi, h1⟩
    obtain ⟨i, ⟨hi, h1⟩, hmin⟩ := least_ex hex
    have h2 : ∀ j, j < i → aliveM o (runM o s (j + 1)) = true := fun j hj => by
      cases hc : aliveM o (runM o s (j + 1)) with
      | true => rfl
      | false => exact absurd ⟨by omega, hc⟩ (hmin j hj)
    have := liveM_some h hi h1 h2
    exact .inr ⟨by omega, by rw [this]; exact h1, by rw [this]; exact h2⟩
theorem live_le (o : Option AM) (s : ByteArray) : liveM o s ≤ s.size := by
  cases h : aliveM o 0 with
  | false => rw [liveM_dead h]; omega
  | true => rcases liveM_cases s h with h1 | h1 <;> omega
theorem live_pre (o : Option AM) (s : ByteArray) : liveM o (s.extract 0 (liveM o s)) = liveM o s := by
  have hle := live_le o s
  cases h : aliveM o 0 with
  | false => rw [liveM_dead h, liveM_dead h]
  | true =>
    have hsz := ext_size s hle
    rw [liveM_all h, hsz]
    intro i hi
    rw [runM_ext s (by omega)]
    rcases liveM_cases s h with ⟨h1, h2⟩ | ⟨h1, h2, h3⟩
    · exact h2 i (by omega)
    · exact h3 i (by omega)
theorem acc_cat {A : AM} (hok : A.Ok) {s w : ByteArray} (h : acceptsM (some A) (s ++ w) = true) : liveM (some A) s = s.size ∧ aliveM (some A) 0 = true := by
  have hl := acc_alive hok h
  have hsz : (s ++ w).size = s.size + w.size := by simp
  have h0 : aliveM (some A) 0 = true := hl 0 (Nat.zero_le _)
  refine ⟨liveM_all h0 fun i hi => ?_, h0⟩
  rw [← runM_cat s w (by omega)]
  exact hl (i + 1) (by omega)
theorem acc_live {A : AM} (hok : A.Ok) {s : ByteArray} (h : acceptsM (some A) s = true) : liveM (some A) s = s.size :=
  liveM_all (acc_alive hok h 0 (Nat.zero_le _)) fun i hi => acc_alive hok h (i + 1) hi
theorem acc_more {A : AM} (hok : A.Ok) {s : ByteArray} (w : ByteArray) (h : liveM (some A) s < s.size) : acceptsM (some A) (s.extract 0 (liveM (some A) s + 1) ++ w) = false := by
  cases hacc : acceptsM (some A) (s.extract 0 (liveM (some A) s + 1) ++ w) with
  | false => rfl
  | true =>
    have hl := acc_alive hok hacc
    have h0 : aliveM (some A) 0 = true := hl 0 (Nat.zero_le _)
    have hsz := ext_size s (n := liveM (some A) s + 1) h
    have hsz2 : (s.extract 0 (liveM (some A) s + 1) ++ w).size = (s.extract 0 (liveM (some A) s + 1)).size + w.size := by simp
    have h1 := hl (liveM (some A) s + 1) (by omega)
    rw [runM_cat _ _ (by omega), runM_ext _ (Nat.le_refl _)] at h1
    rcases liveM_cases s h0 with ⟨h2, h3⟩ | ⟨h2, h3, h4⟩
    · omega
    · rw [h3] at h1; cases h1
theorem acc_none (s : ByteArray) : acceptsM none s = false := rfl
/-- What the law asks. -/
theorem lives_law {o : Option AM} (hok : ∀ A, o = some A → A.Ok) (s w : ByteArray) : (acceptsM o s = true → liveM o s = s.size) ∧ (liveM o s < s.size → acceptsM o (s.extract 0 (liveM o s + 1) ++ w) = false) ∧ (acceptsM o (s ++ w) = true → liveM o s = s.size ∧ aliveM o 0 = true) := by
  cases o with
  | none => exact ⟨fun h => (by cases h), fun _ => rfl, fun h => (by cases h)⟩
  | some A =>
    have := hok A rfl
    exact ⟨acc_live this, acc_more this w, acc_cat this⟩
theorem autoOf_ok {cells : List (BitVec 256)} {next : List (List Int)} {final : List Bool} : ∀ A, autoOf cells next final = some A → A.Ok := by
  intro A h
  unfold autoOf at h
  split at h
  · rename_i hs
    cases h
    exact madeM_ok hs
  · cases h

end Go.Proofs.Ytkgmhkcncemmkaa
