/- The law DfaLives: its walk. -/
import Derived.Test.YtpnnedkpbmilkaaPTabs
set_option linter.unusedVariables false
set_option linter.unusedSimpArgs false
set_option maxRecDepth 100000
namespace Go.Proofs.Ytpnnedkpbmilkaa
open Go.VC
attribute [local irreducible] mRun

def autoOf (cells : List (BitVec 256)) (next : List (List Int)) (final : List Bool) : Option AM := if soundB cells next final.length then some (madeM cells next final) else none
/-- What a table that is handed in says of memory. -/
structure TabIn (S : Nat → Prop) (H : Heap) (v : Value) (cells : List (BitVec 256)) (next : List (List Int)) (final : List Bool) : Prop where
  lt : ∀ k, S k → k < H.size
  rep : ∃ ca na fa cc nc fc, v = .agg #[.slice ca cells.length cc, .slice na next.length nc, .slice fa final.length fc] ∧ SlD tSet S H ca cc cells ∧ SlD tRows S H na nc next ∧ SlD tBool S H fa fc final
  cn : cells.length ≤ 1048576
  nn : next.length ≤ 1048576
  rn : ∀ row ∈ next, row.length ≤ 1048576
  fn : final.length ≤ 1048576
theorem vcall_new {cells : List (BitVec 256)} {next : List (List Int)} {final : List Bool} {S : Nat → Prop} {H : Heap} {K : Value → Heap → Prop} {ca na fa : Option Addr} {cc nc fc : Nat} (hS : ∀ k, S k → k < H.size)
    (hc : SlD tSet S H ca cc cells) (hn : SlD tRows S H na nc next) (hf : SlD tBool S H fa fc final)
    (h : ∀ v H', Agr (Old H) H H' → H.size ≤ H'.size → AutoV (Fresh H H') H' v (autoOf cells next final) → K v H') :
    VCall Try.prog 17 #[.slice ca cells.length cc, .slice na next.length nc, .slice fa final.length fc] H K :=
  VCall.mk (new_c ca na fa cc nc fc cells next final S H hS hc hn hf) fun v H' ⟨h1, h2, h3⟩ => h v H' h1 h2 h3
theorem vcall_newO {cells : List (BitVec 256)} {next : List (List Int)} {final : List Bool} {H : Heap} {K : Value → Heap → Prop} {nb lo1 lo2 : Nat} {v1 v3 : Value} {vs : List Value}
    (h1 : SlO tSet (fun _ => False) H lo1 41 v1 cells) (h2 : Tab tI (fun _ => False) H (nb + 1) 3 nb 35 vs next) (h3 : SlO tBool (fun _ => False) H lo2 4 v3 final)
    (hm : next.length ≤ maxLen)
    (h : ∀ v H', Agr (Old H) H H' → H.size ≤ H'.size → AutoV (Fresh H H') H' v (autoOf cells next final) → K v H') :
    VCall Try.prog 17 #[v1, .slice (some ⟨nb, 0, none⟩) next.length next.length, v3] H K := by
  obtain ⟨ca, cc, rfl, hc, -⟩ := h1.view (S' := Old H) (fun k hk => (h1.lt hk).2) (fun k hk => hk.elim)
  obtain ⟨fa, fc, rfl, hf, -⟩ := h3.view (S' := Old H) (fun k hk => (h3.lt hk).2) (fun k hk => hk.elim)
  exact vcall_new (S := Old H) (fun k hk => hk) hc (h2.view rfl hm (fun k _ hk => hk) (fun k hk => hk.elim)) hf h
theorem ends_c {fa : Option Addr} {fc : Nat} {final : List Bool} {S : Nat → Prop} {H : Heap} {K : Value → Heap → Prop} {q : Nat} (hq : Blk H q 4 []) (hS : ∀ k, S k → k < H.size ∧ k ≠ q) (hf : SlD tBool S H fa fc final) (hn : final.length ≤ 4194304)
    (h : ∀ v H', SlO tBool (fun _ => False) H' q 4 v final → Agr (fun k => k < H.size ∧ k ≠ q) H H' → H.size ≤ H'.size → K v H') :
    VEff Try.prog (Builtin.append_ #[24, 24] 24 [.slice (some ⟨q, 0, none⟩) 0 0, .slice fa final.length fc].toArray) H K := by
  have hqb : ∀ j, slB (.slice (some ⟨q, 0, none⟩) 0 0) j → j = q := by rintro j ⟨o, n, c, e⟩; cases e; rfl
  refine vappendD (T := tBool) (S := S) (lo := q) (xs := []) sl24 tBool_ones (SlO.empty (Nat.le_refl _) hq) (Nat.le_of_lt hq.lt) (fun j hj => ⟨(hS j hj).1, fun hb => (hS j hj).2 (hqb j hb)⟩) hf (by simp only [maxLen, List.length_nil]; omega) (by simp only [List.length_nil]; omega) ?_
  intro v H' h1 h2 h3 h4
  rw [List.nil_append] at h1
  exact h v H' (h1.free tBool_free) (h2.mono fun j hj => ⟨hj.1, fun hb => hj.2 (hqb j hb)⟩) h3

/-! ### the plain law -/
theorem runM_congr {o : Option AM} {s t : ByteArray} {k : Nat} (h : s.data.toList.take k = t.data.toList.take k) : runM o s k = runM o t k := by unfold runM; rw [h]
theorem bytes_list (s t : ByteArray) : (s ++ t).data.toList = s.data.toList ++ t.data.toList := by simp
theorem ext_list (s : ByteArray) (n : Nat) : (s.extract 0 n).data.toList = s.data.toList.take n := by simp
theorem ext_size (s : ByteArray) {n : Nat} (h : n ≤ s.size) : (s.extract 0 n).size = n := by simp; omega
theorem runM_cat {o : Option AM} (s t : ByteArray) {k : Nat} (h : k ≤ s.size) : runM o (s ++ t) k = runM o s k := by
  apply runM_congr
  rw [bytes_list, List.take_append_of_le_length (by simpa using h)]
theorem runM_ext {o : Option AM} (s : ByteArray) {n k : Nat} (h : k ≤ n) : runM o (s.extract 0 n) k = runM o s k := by
  apply runM_congr
  rw [ext_list, List.take_take, Nat.min_eq_left h]
section
open Classical
theorem alive_step {A : AM} (hok : A.Ok) {q : Int} {b : Nat} (h0 : 0 ≤ q) (h1 : q < A.next.length) (hb : b < 256) (h : aliveM (some A) (stepM (some A) q b) = true) : aliveM (some A) q = true := by
  obtain ⟨n, rfl⟩ := Int.eq_ofNat_of_zero_le h0
  obtain ⟨row, hrow⟩ := get_some (l := A.next) (k := n) (by omega)
  obtain ⟨c, hc⟩ := get_some (l := A.cell) (k := b) (by rw [hok.cell]; exact hb)
  have hrl := hok.rows row (List.mem_of_getElem? hrow)
  have hcp := hok.places c (List.mem_of_getElem? hc)
  obtain ⟨t, ht⟩ := get_some (l := row) (k := c) (by omega)
  obtain ⟨t', rfl⟩ := Int.eq_ofNat_of_zero_le (hrl.2 t (List.mem_of_getElem? ht)).1
  have hst : stepM (some A) n b = (t' : Int) := by
    unfold stepM
    rw [if_neg (by simp [stN]; omega)]
    simp only [Int.toNat_natCast, hrow, List.getD_eq_getElem?_getD, hc, Option.getD_some, ht]
  rw [hst] at h
  simp only [aliveM, decide_eq_true_eq, Int.toNat_natCast] at h ⊢
  exact .step hrow (List.mem_of_getElem? ht) h
theorem alive_final {A : AM} {q : Int} (h : finM (some A) q = true) : aliveM (some A) q = true := by
  simp only [finM, Bool.and_eq_true, decide_eq_true_eq] at h
  simp only [aliveM, decide_eq_true_eq]
  refine .fin ?_
  cases hf : A.final[q.toNat]? with
  | none => rw [hf] at h; simp at h
  | some f => rw [hf] at h; simp at h; rw [h.2]
theorem acc_alive {A : AM} (hok : A.Ok) {s : ByteArray} (h : acceptsM (some A) s = true) : ∀ k, k ≤ s.size → aliveM (some A) (runM (some A) s k) = true := by
  have key : ∀ j, j ≤ s.size → aliveM (some A) (runM (some A) s (s.size - j)) = true := by
    intro j
    induction j with
    | zero => intro _; rw [Nat.sub_zero]; exact alive_final h
    | succ j ih =>
      intro hj
      have h1 := ih (by omega)
      obtain ⟨b, hb⟩ := get_byte (s := s) (k := s.size - (j + 1)) (by omega)
      rw [show s.size - j = s.size - (j + 1) + 1 by omega, runM_succ hb] at h1
      obtain ⟨h2, h3⟩ := runM_range hok s (s.size - (j + 1)) (by omega)
      exact alive_step hok h2 h3 (UInt8.toNat_lt b) h1
  intro k hk
  have := key (s.size - k) (by omega)
  rwa [show s.size - (s.size - k) = k by omega] at this
end
theorem liveM_dead {o : Option AM} {s : ByteArray} (h : aliveM o 0 = false) : liveM o s = 0 := by unfold liveM; rw [h]; rfl
theorem liveM_some {o : Option AM} {s : ByteArray} {n : Nat} (h : aliveM o 0 = true) (hn : n < s.size) (h1 : aliveM o (runM o s (n + 1)) = false) (h2 : ∀ i, i < n → aliveM o (runM o s (i + 1)) = true) : liveM o s = n := by
  have h3 : ((List.range s.size).find? fun i => !aliveM o (runM o s (i + 1))) = some n := by
    rw [List.find?_range_eq_some]
    exact ⟨by simp [h1], by simp; omega, fun j hj => by simp [h2 j hj]⟩
  simp only [liveM, h, if_true, h3, Option.getD_some]
theorem liveM_all {o : Option AM} {s : ByteArray} (h : aliveM o 0 = true) (h2 : ∀ i, i < s.size → aliveM o (runM o s (i + 1)) = true) : liveM o s = s.size := by
  have h3 : ((List.range s.size).find? fun i => !aliveM o (runM o s (i + 1))) = none := by
    rw [List.find?_range_eq_none]
    intro i hi
    simp [h2 i hi]
  simp only [liveM, h, if_true, h3, Option.getD_none]
theorem least_ex {p : Nat → Prop} (h : ∃ n, p n) : ∃ n, p n ∧ ∀ m, m < n → ¬ p m := by
  obtain ⟨n, hn⟩ := h
  induction n using Nat.strongRecOn with
  | ind n ih =>
    by_cases hx : ∃ m, m < n ∧ p m
    · obtain ⟨m, h1, h2⟩ := hx
      exact ih m h1 h2
    · exact ⟨n, hn, fun m hm hp => hx ⟨m, hm, hp⟩⟩
theorem liveM_cases {o : Option AM} (s : ByteArray) (h : aliveM o 0 = true) : (liveM o s = s.size ∧ ∀ i, i < s.size → aliveM o (runM o s (i + 1)) = true) ∨ (liveM o s < s.size ∧ aliveM o (runM o s (liveM o s + 1)) = false ∧ ∀ i, i < liveM o s → aliveM o (runM o s (i + 1)) = true) := by
  by_cases hall : ∀ i, i < s.size → aliveM o (runM o s (i + 1)) = true
  · exact .inl ⟨liveM_all h hall, hall⟩
  · have hex : ∃ i, i < s.size ∧ aliveM o (runM o s (i + 1)) = false := by
      simp only [Classical.not_forall, Bool.not_eq_true] at hall
      obtain ⟨i, hi, h1⟩ := hall
      exact ⟨i, hi, h1⟩
    obtain ⟨i, ⟨hi, h1⟩, hmin⟩ := least_ex hex
    have h2 : ∀ j, j < i → aliveM o (runM o s (j + 1)) = true := fun j hj => by
      cases hc : aliveM o (runM o s (j + 1)) with
      | true => rfl
      | false => exact absurd ⟨by omega, hc⟩ (hmin j hj)
    have := liveM_some h hi h1 h2
    exact .inr ⟨by omega, by rw [this]; exact h1, by rw [this]; exact h2⟩
theorem live_le (o : Option AM) (s : ByteArray) : liveM o s ≤ s.size := by
  cases h : aliveM o 0 with
  | false => rw [liveM_dead h]; omega
  | true => rcases liveM_cases s h with h1 | h1 <;> omega
theorem live_pre (o : Option AM) (s : ByteArray) : liveM o (s.extract 0 (liveM o s)) = liveM o s := by
  have hle := live_le o s
  cases h : aliveM o 0 with
  | false => rw [liveM_dead h, liveM_dead h]
  | true =>
    have hsz := ext_size s hle
    rw [liveM_all h, hsz]
    intro i hi
    rw [runM_ext s (by omega)]
    rcases liveM_cases s h with ⟨h1, h2⟩ | ⟨h1, h2, h3⟩
    · exact h2 i (by omega)
    · exact h3 i (by omega)
theorem acc_cat {A : AM} (hok : A.Ok) {s w : ByteArray} (h : acceptsM (some A) (s ++ w) = true) : liveM (some A) s = s.size ∧ aliveM (some A) 0 = true := by
  have hl := acc_alive hok h
  have hsz : (s ++ w).size = s.size + w.size := by simp
  have h0 : aliveM (some A) 0 = true := hl 0 (Nat.zero_le _)
  refine ⟨liveM_all h0 fun i hi => ?_, h0⟩
  rw [← runM_cat s w (by omega)]
  exact hl (i + 1) (by omega)
theorem acc_live {A : AM} (hok : A.Ok) {s : ByteArray} (h : acceptsM (some A) s = true) : liveM (some A) s = s.size :=
  liveM_all (acc_alive hok h 0 (Nat.zero_le _)) fun i hi => acc_alive hok h (i + 1) hi
theorem acc_more {A : AM} (hok : A.Ok) {s : ByteArray} (w : ByteArray) (h : liveM (some A) s < s.size) : acceptsM (some A) (s.extract 0 (liveM (some A) s + 1) ++ w) = false := by
  cases hacc : acceptsM (some A) (s.extract 0 (liveM (some A) s + 1) ++ w) with
  | false => rfl
  | true =>
    have hl := acc_alive hok hacc
    have h0 : aliveM (some A) 0 = true := hl 0 (Nat.zero_le _)
    have hsz := ext_size s (n := liveM (some A) s + 1) h
    have hsz2 : (s.extract 0 (liveM (some A) s + 1) ++ w).size = (s.extract 0 (liveM (some A) s + 1)).size + w.size := by simp
    have h1 := hl (liveM (some A) s + 1) (by omega)
    rw [runM_cat _ _ (by omega), runM_ext _ (Nat.le_refl _)] at h1
    rcases liveM_cases s h0 with ⟨h2, h3⟩ | ⟨h2, h3, h4⟩
    · omega
    · rw [h3] at h1; cases h1
theorem acc_none (s : ByteArray) : acceptsM none s = false := rfl
/-- What the law asks. -/
theorem lives_law {o : Option AM} (hok : ∀ A, o = some A → A.Ok) (s w : ByteArray) : (acceptsM o s = true → liveM o s = s.size) ∧ (liveM o s < s.size → acceptsM o (s.extract 0 (liveM o s + 1) ++ w) = false) ∧ (acceptsM o (s ++ w) = true → liveM o s = s.size ∧ aliveM o 0 = true) := by
  cases o with
  | none => exact ⟨fun h => (by cases h), fun _ => rfl, fun h => (by cases h)⟩
  | some A =>
    have := hok A rfl
    exact ⟨acc_live this, acc_more this w, acc_cat this⟩
theorem autoOf_ok {cells : List (BitVec 256)} {next : List (List Int)} {final : List Bool} : ∀ A, autoOf cells next final = some A → A.Ok := by
  intro A h
  unfold autoOf at h
  split at h
  · rename_i hs
    cases h
    exact madeM_ok hs
  · cases h

theorem lives_p (v : Value) (cells : List (BitVec 256)) (next : List (List Int)) (final : List Bool) (s t : ByteArray) (S : Nat → Prop) (H : Heap) (ht : TabIn S H v cells next final) (hs : s.size ≤ 1048576) (hs2 : t.size ≤ 1048576) :
    Pure Try.prog 6 #[v, .string s, .string t] H (.bool true) := by
  obtain ⟨hS, ⟨ca, na, fa, cc, nc, fc, rfl, hc, hn, hf⟩, cn, nn, rn, fn⟩ := ht
  refine FnOk.of_vc Try.func6 rfl (Try.call6 _) ?_
  (conv => whnf); refine vbox [.slice ca cells.length cc, .slice na next.length nc, .slice fa final.length fc] rfl ?_
  intro pb H1 hpb hs1 hb1 ha1
  (conv => whnf); refine pures (speaks_p H1) fun H2 ha2 => ?_
  have hb2 := hb1.agr ha2 (show pb < H1.size by omega)
  have hs2' := old_size ha2
  have hA2 : Agr (Old H) H H2 := (ha1.mono fun k hk => by unfold Old at hk; omega).trans (ha2.mono fun k hk => by unfold Old at *; omega)
  (conv => whnf)
  refine VDraw.cut [7] (fun v : Value => [v]) (fun v H' => Agr (Old H2) H2 H' ∧ AutoV (Fresh H2 H') H' v (autoOf cells next final)) ?_ ?_
  · refine VDraw.held (Old H2) 10 (sq [0,2,3,6,7] (.b 1 (.b 4 (.f 5 (.f 8 (.f 9 (.f 10 .e)))) 5 (.f 4 (.f 8 (.f 9 (.f 10 .e))))) 5 (.f 1 (.f 4 (.f 8 (.f 9 (.f 10 .e))))))) rfl (by kernel_rfl) ?_
    (conv => whnf); refine ldN (cs := [.slice ca cells.length cc, .slice na next.length nc, .slice fa final.length fc]) ag26 (hb2.cells (fun j v hv => by rw [Nat.zero_add]; exact hv)) hb2.lt ?_
    (conv => whnf); refine VC.fa fl26_1 ?_
    (conv => whnf); refine ld1 ct23 (by rw [hb2.cell]; rfl) hb2.lt ?_
    (conv => whnf); refine VC.fa fl26_2 ?_
    (conv => whnf); refine ld1 ct24 (by rw [hb2.cell]; rfl) hb2.lt ?_
    have hSs : ∀ {H3 : Heap}, Agr (Old H2) H2 H3 → Agr S H H3 := fun h => (hA2.trans (h.mono fun k hk => old_lt hA2 hk)).mono hS
    have hSo : ∀ {H3 : Heap}, Agr (Old H2) H2 H3 → ∀ k, S k → k < H3.size := fun h k hk => old_lt h (old_lt hA2 (hS k hk))
    have fin : ∀ {H6 : Heap} {v1 v3 : Value} {nb lo1 lo2 : Nat} {vs : List Value} {K : Value → Heap → Prop}, Agr (Old H2) H2 H6 → SlO tSet (fun _ => False) H6 lo1 41 v1 cells → Tab tI (fun _ => False) H6 (nb + 1) 3 nb 35 vs next → SlO tBool (fun _ => False) H6 lo2 4 v3 final →
        (∀ v H7, Agr (Old H2) H2 H7 → AutoV (Fresh H2 H7) H7 v (autoOf cells next final) → K v H7) → VCall Try.prog 17 #[v1, .slice (some ⟨nb, 0, none⟩) next.length next.length, v3] H6 K := fun hag h1 h2 h3 k =>
      vcall_newO h1 h2 h3 (by unfold maxLen; omega) fun v H7 h4 h5 h6 => k v H7 (hag.trans (h4.mono fun k hk => old_lt hag hk)) (h6.mono fun k hk => ⟨by have := old_size hag; have := hk.1; omega, hk.2⟩)
    (conv => whnf); refine ⟨?_, ?_⟩
    · refine VCall.mk (cells_l _ _ ca cc cells S H2 (hSo (Agr.refl _ _)) (hc.frame (hSs (Agr.refl _ _))) (by omega)) ?_
      rintro v3 H3 ⟨ha3, hs3, bc, rfl, hbc, own1⟩
      refine ⟨ha3, ?_⟩
      (conv => whnf); refine ⟨?_, ?_⟩
      · refine VCall.mk (rows_c na nc next S H3 (hSo ha3) (hn.frame (hSs ha3)) (by omega) (fun row hr => Nat.le_trans (rn row hr) (by decide))) ?_
        rintro v4 H4 ⟨ha4, hs4, nb, vs, rfl, hnb, tab⟩
        have hA4 := ha3.trans (ha4.mono fun k hk => old_lt ha3 hk)
        refine ⟨hA4, ?_⟩
        (conv => whnf); refine vbuild0 sl24 ?_
        intro q H5 hq hs5 hb5 ha5
        have hA5 : Agr (Old H2) H2 H5 := hA4.trans (ha5.mono fun k hk => by have := old_lt hA4 hk; omega)
        refine ⟨hA5, ?_⟩
        (conv => whnf); refine ends_c hb5 (S := S) (fun k hk => ⟨hSo hA5 k hk, by have := hSo hA4 k hk; omega⟩) (hf.frame (hSs hA5)) (by omega) ?_
        intro v6 H6 own3 ha6 hs6
        have h46 : Agr (fun k => k < H4.size) H4 H6 := (ha5.mono fun k hk => by omega).trans (ha6.mono fun k hk => by omega)
        have hA6 : Agr (Old H2) H2 H6 := hA4.trans (h46.mono fun k hk => old_lt hA4 hk)
        refine ⟨hA6, ?_⟩
        (conv => whnf); refine fin hA6 ((own1.agr ha4 (fun b hb => (own1.lt hb).2) (fun _ h => h.elim)).agr h46 (fun b hb => by have := (own1.lt hb).2; omega) (fun _ h => h.elim)) (tab.agr h46 tab.blk.lt (fun b _ hb => hb) (fun _ h => h.elim)) own3 fun v7 H7 ha7 hv7 => ⟨ha7, ?_⟩
        (conv => whnf); exact ⟨rfl, v7, rfl, ha7, hv7⟩
      · refine vbuild0 sl24 ?_
        intro q H4 hq hs4 hb4 ha4
        have hA4 : Agr (Old H2) H2 H4 := ha3.trans (ha4.mono fun k hk => by have := old_lt ha3 hk; omega)
        refine ⟨hA4, ?_⟩
        (conv => whnf); refine VCall.mk (rows_c na nc next S H4 (hSo hA4) (hn.frame (hSs hA4)) (by omega) (fun row hr => Nat.le_trans (rn row hr) (by decide))) ?_
        rintro v5 H5 ⟨ha5, hs5, nb, vs, rfl, hnb, tab⟩
        have hA5 := hA4.trans (ha5.mono fun k hk => old_lt hA4 hk)
        refine ⟨hA5, ?_⟩
        (conv => whnf); refine ends_c (hb4.agr ha5 hb4.lt) (S := S) (fun k hk => ⟨hSo hA5 k hk, by have := hSo ha3 k hk; omega⟩) (hf.frame (hSs hA5)) (by omega) ?_
        intro v6 H6 own3 ha6 hs6
        have h36 : Agr (fun k => k < H3.size) H3 H6 := ((ha4.mono fun k hk => by omega).trans (ha5.mono fun k hk => by unfold Old; omega)).trans (ha6.mono fun k hk => by omega)
        have hA6 : Agr (Old H2) H2 H6 := ha3.trans (h36.mono fun k hk => old_lt ha3 hk)
        refine ⟨hA6, ?_⟩
        (conv => whnf); refine fin hA6 (own1.agr h36 (fun b hb => (own1.lt hb).2) (fun _ h => h.elim)) (tab.agr ha6 ⟨tab.blk.lt, by omega⟩ (fun b h1 h2 => ⟨h2, by omega⟩) (fun _ h => h.elim)) own3 fun v7 H7 ha7 hv7 => ⟨ha7, ?_⟩
        (conv => whnf); exact ⟨rfl, v7, rfl, ha7, hv7⟩
    · refine vbuild0 sl24 ?_
      intro q H3 hq hs3 hb3 ha3
      have hA3 : Agr (Old H2) H2 H3 := ha3.mono fun k hk => by unfold Old at hk; omega
      refine ⟨hA3, ?_⟩
      (conv => whnf); refine VCall.mk (cells_l _ _ ca cc cells S H3 (hSo hA3) (hc.frame (hSs hA3)) (by omega)) ?_
      rintro v4 H4 ⟨ha4, hs4, bc, rfl, hbc, own1⟩
      have hA4 := hA3.trans (ha4.mono fun k hk => old_lt hA3 hk)
      refine ⟨hA4, ?_⟩
      (conv => whnf); refine VCall.mk (rows_c na nc next S H4 (hSo hA4) (hn.frame (hSs hA4)) (by omega) (fun row hr => Nat.le_trans (rn row hr) (by decide))) ?_
      rintro v5 H5 ⟨ha5, hs5, nb, vs, rfl, hnb, tab⟩
      have hA5 := hA4.trans (ha5.mono fun k hk => old_lt hA4 hk)
      refine ⟨hA5, ?_⟩
      (conv => whnf); refine ends_c ((hb3.agr ha4 hb3.lt).agr ha5 (show q < H4.size by omega)) (S := S) (fun k hk => ⟨hSo hA5 k hk, by have := hSo (Agr.refl _ _) k hk; omega⟩) (hf.frame (hSs hA5)) (by omega) ?_
      intro v6 H6 own3 ha6 hs6
      have hA6 : Agr (Old H2) H2 H6 := hA5.trans (ha6.mono fun k hk => ⟨old_lt hA5 hk, by unfold Old at hk; omega⟩)
      refine ⟨hA6, ?_⟩
      (conv => whnf); refine fin hA6 ((own1.agr ha5 (fun b hb => (own1.lt hb).2) (fun _ h => h.elim)).agr ha6 (fun b hb => by have := own1.lt hb; omega) (fun _ h => h.elim)) (tab.agr ha6 ⟨tab.blk.lt, by omega⟩ (fun b h1 h2 => ⟨h2, by omega⟩) (fun _ h => h.elim)) own3 fun v7 H7 ha7 hv7 => ⟨ha7, ?_⟩
      (conv => whnf); exact ⟨rfl, v7, rfl, ha7, hv7⟩
  · rintro v7 H3 junk ⟨ha3, hv3⟩
    have hA3 := hA2.trans (ha3.mono fun k hk => old_lt hA2 hk)
    have hlt3 : ∀ k, Fresh H2 H3 k → k < H3.size := fun k hk => hk.2
    obtain ⟨l1, l2, l3⟩ := lives_law (autoOf_ok (cells := cells) (next := next) (final := final)) s t
    have hle := live_le (autoOf cells next final) s
    have hpre := live_pre (autoOf cells next final) s
    generalize autoOf cells next final = o at *
    have hF : ∀ {H4 : Heap}, Agr (Old H3) H3 H4 → AutoV (Fresh H2 H3) H4 v7 o := fun h => hv3.frame (h.mono fun k hk => hk.2)
    have hL : ∀ {H4 : Heap}, Agr (Old H3) H3 H4 → ∀ k, Fresh H2 H3 k → k < H4.size := fun h k hk => old_lt h hk.2
    (conv => whnf); refine pures (live_p hlt3 hv3 (by unfold maxLen; omega)) fun H4 ha4 => ?_
    have d1 : decide ((liveM o s : Int) < 0) = false := decide_eq_false (by omega)
    have d2 : decide ((s.size : Int) < (liveM o s : Int)) = false := decide_eq_false (by omega)
    (conv => whnf); rw [d1]
    (conv => whnf); rw [d2]
    (conv => whnf); refine vcutSH strT (by omega) (by omega) ?_
    rw [Int.toNat_natCast]
    (conv => whnf); refine pures (live_p (hL ha4) (hF ha4) (by rw [ext_size s hle]; unfold maxLen; omega)) fun H5 ha5 => ?_
    rw [hpre]
    have ha5' := ha4.trans (ha5.mono fun k hk => old_lt ha4 hk)
    have d3 : ((liveM o s : Int) != (liveM o s : Int)) = false := by simp
    (conv => whnf); rw [d3]
    (conv => whnf); refine pures (accepts_p (hL ha5') (hF ha5') (by unfold maxLen; omega)) fun H6 ha6 => ?_
    have ha6' := ha5'.trans (ha6.mono fun k hk => old_lt ha5' hk)
    have hct : (s ++ t).size = s.size + t.size := by simp
    cases hacc : acceptsM o s with
    | true =>
      have hl1 := l1 hacc
      have d4 : ((liveM o s : Int) != (s.size : Int)) = false := by simp [hl1]
      have d5 : decide ((liveM o s : Int) < (s.size : Int)) = false := decide_eq_false (by omega)
      (conv => whnf); rw [d4]
      (conv => whnf); rw [d5]
      (conv => whnf); refine vcat (by unfold maxLen; omega) ?_
      (conv => whnf); refine pures (accepts_p (hL ha6') (hF ha6') (by rw [hct]; unfold maxLen; omega)) fun H8 ha8 => ?_
      have ha8' := ha6'.trans (ha8.mono fun k hk => old_lt ha6' hk)
      cases hac2 : acceptsM o (s ++ t) with
      | false =>
        (conv => whnf)
        exact ⟨rfl, hA3.trans (ha8'.mono fun k hk => old_lt hA3 hk)⟩
      | true =>
        obtain ⟨q1, q2⟩ := l3 hac2
        have d6 : ((liveM o s : Int) == (s.size : Int)) = true := by simp [q1]
        (conv => whnf); rw [d6]
        (conv => whnf); refine pures (empty_p (hF ha8')) fun H9 ha9 => ?_
        rw [q2]
        have ha9' := ha8'.trans (ha9.mono fun k hk => old_lt ha8' hk)
        (conv => whnf)
        exact ⟨rfl, hA3.trans (ha9'.mono fun k hk => old_lt hA3 hk)⟩
    | false =>
      by_cases hlt : liveM o s < s.size
      · have d5 : decide ((liveM o s : Int) < (s.size : Int)) = true := decide_eq_true (by omega)
        (conv => whnf); rw [d5]
        (conv => whnf); rw [w64 (x := (liveM o s : Int) + 1) (by omega) (by omega)]
        (conv => whnf); refine vcutSH strT (by omega) (by omega) ?_
        rw [show ((liveM o s : Int) + 1).toNat = liveM o s + 1 by omega]
        have hex := ext_size s (n := liveM o s + 1) hlt
        have hct2 : (s.extract 0 (liveM o s + 1) ++ t).size = (s.extract 0 (liveM o s + 1)).size + t.size := by simp
        (conv => whnf); refine vcat (by rw [hex]; unfold maxLen; omega) ?_
        (conv => whnf); refine pures (accepts_p (hL ha6') (hF ha6') (by rw [hct2, hex]; unfold maxLen; omega)) fun H7 ha7 => ?_
        rw [l2 hlt]
        have ha7' := ha6'.trans (ha7.mono fun k hk => old_lt ha6' hk)
        (conv => whnf); refine vcat (by unfold maxLen; omega) ?_
        (conv => whnf); refine pures (accepts_p (hL ha7') (hF ha7') (by rw [hct]; unfold maxLen; omega)) fun H8 ha8 => ?_
        have ha8' := ha7'.trans (ha8.mono fun k hk => old_lt ha7' hk)
        cases hac2 : acceptsM o (s ++ t) with
        | false =>
          (conv => whnf)
          exact ⟨rfl, hA3.trans (ha8'.mono fun k hk => old_lt hA3 hk)⟩
        | true =>
          obtain ⟨q1, q2⟩ := l3 hac2
          have d6 : ((liveM o s : Int) == (s.size : Int)) = true := by simp [q1]
          (conv => whnf); rw [d6]
          (conv => whnf); refine pures (empty_p (hF ha8')) fun H9 ha9 => ?_
          rw [q2]
          have ha9' := ha8'.trans (ha9.mono fun k hk => old_lt ha8' hk)
          (conv => whnf)
          exact ⟨rfl, hA3.trans (ha9'.mono fun k hk => old_lt hA3 hk)⟩
      · have d5 : decide ((liveM o s : Int) < (s.size : Int)) = false := decide_eq_false (by omega)
        (conv => whnf); rw [d5]
        (conv => whnf); refine vcat (by unfold maxLen; omega) ?_
        (conv => whnf); refine pures (accepts_p (hL ha6') (hF ha6') (by rw [hct]; unfold maxLen; omega)) fun H8 ha8 => ?_
        have ha8' := ha6'.trans (ha8.mono fun k hk => old_lt ha6' hk)
        cases hac2 : acceptsM o (s ++ t) with
        | false =>
          (conv => whnf)
          exact ⟨rfl, hA3.trans (ha8'.mono fun k hk => old_lt hA3 hk)⟩
        | true =>
          obtain ⟨q1, q2⟩ := l3 hac2
          have d6 : ((liveM o s : Int) == (s.size : Int)) = true := by simp [q1]
          (conv => whnf); rw [d6]
          (conv => whnf); refine pures (empty_p (hF ha8')) fun H9 ha9 => ?_
          rw [q2]
          have ha9' := ha8'.trans (ha9.mono fun k hk => old_lt ha8' hk)
          (conv => whnf)
          exact ⟨rfl, hA3.trans (ha9'.mono fun k hk => old_lt hA3 hk)⟩

end Go.Proofs.Ytpnnedkpbmilkaa
