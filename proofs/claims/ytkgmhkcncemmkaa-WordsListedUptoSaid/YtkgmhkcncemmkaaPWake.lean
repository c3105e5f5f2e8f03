/- What wake makes: the states from which a final one can be reached. -/
import Derived.Test.YtkgmhkcncemmkaaPMerge
import Derived.Test.YtkgmhkcncemmkaaVMem
set_option linter.unusedVariables false
set_option linter.unusedSimpArgs false
set_option maxRecDepth 100000
namespace Go.Proofs.Ytkgmhkcncemmkaa
open Go.VC

inductive LiveT (rows : List (List Int)) (fin : List Bool) : Nat → Prop
  | fin {q : Nat} : fin[q]? = some true → LiveT rows fin q
  | step {q t : Nat} {row : List Int} : rows[q]? = some row → (t : Int) ∈ row → LiveT rows fin t → LiveT rows fin q

/-- The predecessors that have been noted: of all rows before q, of row q before j. -/
def Noted (rows : List (List Int)) (q j t : Nat) (p : Int) : Prop := ∃ (q' : Nat) (row : List Int), p = (q' : Int) ∧ rows[q']? = some row ∧ (q' < q ∧ (t : Int) ∈ row ∨ q' = q ∧ (t : Int) ∈ row.take j)
def nF (al : List Bool) : Nat := al.count false
theorem nF_set {al : List Bool} {p : Nat} (h : al[p]? = some false) : nF (al.set p true) + 1 = nF al := by
  unfold nF
  induction al generalizing p with
  | nil => simp at h
  | cons a al ih =>
    cases p with
    | zero => simp at h; subst h; simp [List.count_cons]
    | succ p => simp at h; simp only [List.set_cons_succ, List.count_cons]; have := ih h; omega

/-- What the search keeps: al: marked; td: to be looked at; ex: the one that is being looked at, and how far. -/
structure WI (rows : List (List Int)) (final : List Bool) (bk : List (List Int)) (al : List Bool) (td : List Int) (ex : Option (Nat × Nat)) : Prop where
  len : al.length = rows.length
  sound : ∀ q : Nat, al[q]? = some true → LiveT rows final q
  fin : ∀ q : Nat, final[q]? = some true → al[q]? = some true
  tdok : ∀ x ∈ td, ∃ q : Nat, x = (q : Int) ∧ al[q]? = some true
  cnt : td.length + nF al ≤ rows.length
  closed : ∀ (q : Nat) (x : List Int), al[q]? = some true → bk[q]? = some x → (q : Int) ∈ td ∨ (∀ p ∈ x, al[p.toNat]? = some true) ∨ ∃ j, ex = some (q, j) ∧ ∀ p ∈ x.take j, al[p.toNat]? = some true
def BkOk (rows : List (List Int)) (bk : List (List Int)) : Prop := bk.length = rows.length ∧ ∀ (t : Nat) (x : List Int), bk[t]? = some x → ∀ p, p ∈ x ↔ ∃ (q' : Nat) (row : List Int), p = (q' : Int) ∧ rows[q']? = some row ∧ (t : Int) ∈ row
section
variable {rows : List (List Int)} {final : List Bool} {bk : List (List Int)} {al : List Bool} {td : List Int}
theorem WI.pop {q : Nat} (h : WI rows final bk al (td ++ [(q : Int)]) none) : WI rows final bk al td (some (q, 0)) := by
  refine ⟨h.len, h.sound, h.fin, fun x hx => h.tdok x (List.mem_append_left _ hx), by have := h.cnt; simp at this; omega, fun q' x hq' hx => ?_⟩
  rcases h.closed q' x hq' hx with h1 | h1 | ⟨j, h1, _⟩
  · rcases List.mem_append.1 h1 with h1 | h1
    · exact .inl h1
    · rw [List.mem_singleton] at h1
      have : q' = q := by omega
      subst this
      exact .inr (.inr ⟨0, rfl, by simp⟩)
  · exact .inr (.inl h1)
  · cases h1
theorem WI.skip {q j pn : Nat} {x : List Int} (h : WI rows final bk al td (some (q, j))) (hx : bk[q]? = some x) (hj : x[j]? = some (pn : Int)) (hp : al[pn]? = some true) : WI rows final bk al td (some (q, j + 1)) := by
  refine ⟨h.len, h.sound, h.fin, h.tdok, h.cnt, fun q' x' hq' hx' => ?_⟩
  rcases h.closed q' x' hq' hx' with h1 | h1 | ⟨j', h1, h2⟩
  · exact .inl h1
  · exact .inr (.inl h1)
  · cases h1
    rw [hx] at hx'; cases hx'
    refine .inr (.inr ⟨j + 1, rfl, fun p hp' => ?_⟩)
    rw [take_succ_snoc hj, List.mem_append, List.mem_singleton] at hp'
    rcases hp' with hp' | rfl
    · exact h2 p hp'
    · simpa using hp
theorem WI.mark {q j pn : Nat} {x : List Int} (hbk : BkOk rows bk) (h : WI rows final bk al td (some (q, j))) (hq : al[q]? = some true) (hx : bk[q]? = some x) (hj : x[j]? = some (pn : Int)) (hp : al[pn]? = some false) :
    WI rows final bk (al.set pn true) (td ++ [(pn : Int)]) (some (q, j + 1)) := by
  have hlt : pn < al.length := (List.getElem?_eq_some_iff.1 hp).1
  have keep : ∀ i, al[i]? = some true → (al.set pn true)[i]? = some true := fun i hi => by
    by_cases h1 : pn = i
    · subst h1; rw [List.getElem?_set_self hlt]
    · rw [List.getElem?_set_ne h1]; exact hi
  have live : LiveT rows final pn := by
    obtain ⟨q', row, h1, h2, h3⟩ := (hbk.2 q x hx (pn : Int)).1 (List.mem_of_getElem? hj)
    have : pn = q' := by omega
    subst this
    exact .step h2 h3 (h.sound q hq)
  refine ⟨by simp [h.len], fun i hi => ?_, fun i hi => keep i (h.fin i hi), fun y hy => ?_, ?_, fun q' x' hq' hx' => ?_⟩
  · by_cases h1 : pn = i
    · subst h1; exact live
    · rw [List.getElem?_set_ne h1] at hi; exact h.sound i hi
  · rcases List.mem_append.1 hy with hy | hy
    · obtain ⟨i, h1, h2⟩ := h.tdok y hy
      exact ⟨i, h1, keep i h2⟩
    · rw [List.mem_singleton] at hy
      exact ⟨pn, hy, by rw [List.getElem?_set_self hlt]⟩
  · have h1 := nF_set hp
    have h2 := h.cnt
    simp only [List.length_append, List.length_singleton]; omega
  · by_cases h1 : pn = q'
    · subst h1
      exact .inl (List.mem_append_right _ (List.mem_singleton.2 rfl))
    · rw [List.getElem?_set_ne h1] at hq'
      rcases h.closed q' x' hq' hx' with h2 | h2 | ⟨j', h2, h3⟩
      · exact .inl (List.mem_append_left _ h2)
      · exact .inr (.inl fun p hp' => keep _ (h2 p hp'))
      · cases h2
        rw [hx] at hx'; cases hx'
        refine .inr (.inr ⟨j + 1, rfl, fun p hp' => ?_⟩)
        rw [take_succ_snoc hj, List.mem_append, List.mem_singleton] at hp'
        rcases hp' with hp' | rfl
        · exact keep _ (h3 p hp')
        · rw [Int.toNat_natCast, List.getElem?_set_self hlt]
theorem WI.done {q : Nat} {x : List Int} (h : WI rows final bk al td (some (q, x.length))) (hx : bk[q]? = some x) : WI rows final bk al td none := by
  refine ⟨h.len, h.sound, h.fin, h.tdok, h.cnt, fun q' x' hq' hx' => ?_⟩
  rcases h.closed q' x' hq' hx' with h1 | h1 | ⟨j', h1, h2⟩
  · exact .inl h1
  · exact .inr (.inl h1)
  · cases h1
    rw [hx] at hx'; cases hx'
    rw [List.take_length] at h2
    exact .inr (.inl h2)
theorem WI.finish (hbk : BkOk rows bk) (hr : ∀ row ∈ rows, ∀ t ∈ row, 0 ≤ t ∧ t < (rows.length : Int)) (h : WI rows final bk al [] none) (q : Nat) : al[q]? = some true ↔ LiveT rows final q := by
  refine ⟨h.sound q, fun hl => ?_⟩
  induction hl with
  | fin hf => exact h.fin _ hf
  | @step q t row h1 h2 _ ih =>
    have ht := hr row (List.mem_of_getElem? h1) _ h2
    obtain ⟨x, hx⟩ := get_some (l := bk) (k := t) (by rw [hbk.1]; omega)
    have hm : (q : Int) ∈ x := (hbk.2 t x hx (q : Int)).2 ⟨q, row, rfl, h1, h2⟩
    rcases h.closed t x ih hx with h3 | h3 | ⟨_, h3, _⟩
    · cases h3
    · simpa using h3 _ hm
    · cases h3
end

set_option maxHeartbeats 4000000 in
theorem wake_c (pb : Nat) (cv av : Value) (cell : List Nat) (an af : Option Addr) (capn capf : Nat) (rows : List (List Int)) (final : List Bool) (S : Nat → Prop) (H : Heap) (hS : ∀ k, S k → k < H.size ∧ k ≠ pb)
    (hb : Blk H pb 102 (autoL cv cell (.slice an rows.length capn) (.slice af final.length capf) av)) (hcl : cell.length ≤ 256) (hn : SlD tRows S H an capn rows) (hf : SlD tBool S H af capf final)
    (hr1 : rows.length ≤ 65536) (hfl : final.length = rows.length) (hrows : ∀ row ∈ rows, row.length ≤ 256 ∧ ∀ t ∈ row, 0 ≤ t ∧ t < (rows.length : Int)) :
    FnOk Try.prog 72 #[.pointer (some ⟨pb, 0, none⟩)] H fun v H' => Agr (fun k => k < H.size ∧ k ≠ pb) H H' ∧ H.size ≤ H'.size ∧
      ∃ (al : List Bool) (aa : Option Addr) (capa : Nat), al.length = rows.length ∧ (∀ q, q < rows.length → (al[q]? = some true ↔ LiveT rows final q)) ∧
        Blk H' pb 102 (autoL cv cell (.slice an rows.length capn) (.slice af final.length capf) (.slice aa al.length capa)) ∧ SlD tBool (fun k => H.size ≤ k ∧ k < H'.size) H' aa capa al := by
  have hpb := hb.lt
  refine FnOk.of_vc Try.func72 rfl (Try.call72 _) ?_
  (conv => whnf); refine fa fl102_2 ?_
  (conv => whnf); refine ld1 ct23 (by rw [hb.cell, Nat.zero_add]; exact autoL_257 hcl) trivial ?_
  (conv => whnf); refine vmake1 sl23 rfl (by omega) (by omega) (by omega) (by omega) ?_
  intro nb H1 hnb hs1 hb1n ha1
  rw [Int.toNat_natCast] at hb1n
  have hb1 := hb.agr ha1 (show pb < nb by omega)
  (conv => whnf); refine fa fl102_2 ?_
  (conv => whnf); refine ld1 ct23 (by rw [hb1.cell, Nat.zero_add]; exact autoL_257 hcl) trivial ?_
  (conv => whnf)
  refine VLoop.mk [24] (fun q : Nat => [.int .i64 q]) (fun q H2 => q ≤ rows.length ∧ Agr (fun k => k < H1.size ∧ k ≠ nb) H1 H2 ∧ H1.size ≤ H2.size ∧ ∃ vs bk, Tab tI (fun _ => False) H2 (nb + 1) 3 nb 36 vs bk ∧ bk.length = rows.length ∧
    (∀ (t : Nat) (x : List Int), bk[t]? = some x → x.length ≤ q * 256 ∧ ∀ p, p ∈ x ↔ Noted rows q 0 t p)) (fun q _ => rows.length - q) ?_ ?_
  · (conv => whnf)
    refine ⟨0, rfl, by omega, Agr.refl _ _, Nat.le_refl _, _, _, Tab.new hb1n (by omega), by simp, fun t x hx => ?_⟩
    rw [List.getElem?_replicate] at hx
    split at hx
    · cases hx
      refine ⟨by simp, fun p => ⟨(fun h => by cases h), ?_⟩⟩
      rintro ⟨q', row, _, _, ⟨h, _⟩ | ⟨_, h⟩⟩
      · omega
      · simp at h
    · cases hx
  · rintro q H2 junk ⟨hq, ha2, hs2, vs, bk, htab, hbkl, hbk⟩
    have hA2 : Agr (fun k => k < H.size ∧ k ≠ pb) H H2 := (ha1.mono fun k hk => by omega).trans (ha2.mono fun k hk => by omega)
    have hb2 := hb1.agr ha2 ⟨by omega, by omega⟩
    (conv => whnf); refine VIte.mk (fun h => ?_) (fun h => ?_) <;> simp only [decide_eq_true_eq, decide_eq_false_iff_not] at h
    · obtain ⟨row, hrow⟩ := get_some (l := rows) (k := q) (by omega)
      obtain ⟨hrl, hrt⟩ := hrows row (List.mem_of_getElem? hrow)
      (conv => whnf); refine ixr sl23 (hn.frame (hA2.mono fun k hk => hS k hk)) hrow rfl ?_
      rintro b2 o2 cs2 hSb2 hcells2 ⟨ra, rc, rfl, hr⟩
      (conv => whnf); refine ld1 ct36 hcells2.one trivial ?_
      (conv => whnf)
      refine VLoop.mk [31] (fun j : Nat => [.int .i64 j]) (fun j H3 => j ≤ row.length ∧ Agr (fun k => k < H1.size ∧ k ≠ nb) H2 H3 ∧ H1.size ≤ H3.size ∧ ∃ vs bk, Tab tI (fun _ => False) H3 (nb + 1) 3 nb 36 vs bk ∧ bk.length = rows.length ∧
        (∀ (t : Nat) (x : List Int), bk[t]? = some x → x.length ≤ q * 256 + j ∧ ∀ p, p ∈ x ↔ Noted rows q j t p)) (fun j _ => row.length - j) ?_ ?_
      · (conv => whnf); exact ⟨0, rfl, by omega, Agr.refl _ _, hs2, vs, bk, htab, hbkl, hbk⟩
      · clear htab hbkl hbk vs bk
        rintro j H3 junk2 ⟨hj, ha3, hs3, vs, bk, htab, hbkl, hbk⟩
        have hr3 := hr.frame (ha3.mono fun k hk => by have := hS k hk; omega)
        (conv => whnf); refine VIte.mk (fun h => ?_) (fun h => ?_) <;> simp only [decide_eq_true_eq, decide_eq_false_iff_not] at h
        · obtain ⟨ti, hti⟩ := get_some (l := row) (k := j) (by omega)
          obtain ⟨ht0, ht1⟩ := hrt ti (List.mem_of_getElem? hti)
          obtain ⟨t, rfl⟩ := Int.eq_ofNat_of_zero_le ht0
          (conv => whnf); refine ixr sl36 hr3 hti rfl ?_
          rintro b3 o3 cs3 hSb3 hcells3 ⟨rfl, htk⟩
          (conv => whnf); refine ld1 ct3 hcells3.one trivial ?_
          obtain ⟨v, x, hv, hx, hsl⟩ := htab.get (i := t) (by omega)
          obtain ⟨hxl, hxm⟩ := hbk t x hx
          obtain ⟨av3, capv3, rfl, -, -⟩ := hsl.view (S' := fun k => slB v k) (fun k hk => hk) (fun k hk => hk.elim)
          have htlt : t < vs.length := (List.getElem?_eq_some_iff.1 hv).1
          (conv => whnf); refine ix sl23 (by omega) (by omega) ?_
          (conv => whnf); refine ld1 ct36 (by rw [htab.blk.cell, show 0 + (t : Int).toNat * 1 = t by omega]; exact hv) trivial ?_
          (conv => whnf); refine vbuild1 sl36 [.int .i64 (q : Int)] rfl rfl (by decide) (by decide) ?_
          intro q4 H4 hq4 hs4 hb4 ha4
          have hnb3 := htab.blk.lt
          have htab4 := htab.agr ha4 (by omega) (fun b _ hb => by omega) (fun k hk => hk.elim)
          (conv => whnf); refine vappendO (T := tI) (S := fun _ => False) (ys := [(q : Int)]) (ds := [.int .i64 (q : Int)]) (lo := nb + 1) (xs := x) sl36 (htab4.own t _ x hv hx) (by omega) (fun k hk => hk.elim)
            (hb4.cells (fun j v hv => by simpa using hv)) (Ty.reps_one ⟨rfl, inI64 (by omega)⟩) rfl (by intro u hu; cases List.mem_singleton.1 hu; rfl) (by simp only [maxLen, List.length_singleton]; omega) (by simp only [List.length_singleton]; omega) ?_
          intro v5 H5 hown5 ha5 hs5 hfresh5
          have hb5n := htab4.blk.agr ha5 ⟨by omega, fun hk => by have := ((htab4.own t _ x hv hx).lt hk).1; omega⟩
          (conv => whnf); refine ix sl23 (by omega) (by omega) ?_
          (conv => whnf); refine st1 ct36 hb5n (by omega) hown5.one ?_
          intro H6 hb6 ha6 hs6
          rw [show 0 + (t : Int).toNat * 1 = t by omega] at hb6
          (conv => whnf); rw [w64 (x := (j : Int) + 1) (by omega) (by omega)]
          refine ⟨rfl, j + 1, by simp, ⟨by omega, ?_, by omega, _, _, htab4.push hv hown5 ha5 hfresh5 hb6 ha6 (fun k hk => hk.elim), by simp [hbkl], ?_⟩, by omega⟩
          · intro k hk
            rw [ha6 k hk.2, ha5 k ⟨by omega, fun hb => by have := ((htab4.own t _ x hv hx).lt hb).1; omega⟩, ha4 k (by omega), ha3 k hk]
          · intro t' x' hx'
            have hmem : ∀ p, Noted rows q (j + 1) t' p ↔ Noted rows q j t' p ∨ (t' = t ∧ p = (q : Int)) := by
              intro p
              unfold Noted
              constructor
              · rintro ⟨q', row', h1, h2, ⟨h3, h4⟩ | ⟨h3, h4⟩⟩
                · exact .inl ⟨q', row', h1, h2, .inl ⟨h3, h4⟩⟩
                · subst h3
                  rw [hrow] at h2; cases h2
                  rw [take_succ_snoc hti, List.mem_append, List.mem_singleton] at h4
                  rcases h4 with h4 | h4
                  · exact .inl ⟨_, _, h1, hrow, .inr ⟨rfl, h4⟩⟩
                  · exact .inr ⟨by omega, h1⟩
              · rintro (⟨q', row', h1, h2, ⟨h3, h4⟩ | ⟨h3, h4⟩⟩ | ⟨rfl, rfl⟩)
                · exact ⟨q', row', h1, h2, .inl ⟨h3, h4⟩⟩
                · subst h3
                  rw [hrow] at h2; cases h2
                  exact ⟨_, _, h1, hrow, .inr ⟨rfl, by rw [take_succ_snoc hti, List.mem_append]; exact .inl h4⟩⟩
                · exact ⟨q, row, rfl, hrow, .inr ⟨rfl, by rw [take_succ_snoc hti, List.mem_append]; exact .inr (List.mem_singleton.2 rfl)⟩⟩
            by_cases htt : t' = t
            · subst htt
              rw [List.getElem?_set_self (by omega)] at hx'
              cases hx'
              refine ⟨by simp only [List.length_append, List.length_singleton]; omega, fun p => ?_⟩
              rw [hmem p, List.mem_append, hxm p, List.mem_singleton]
              simp
            · rw [List.getElem?_set_ne (Ne.symm htt)] at hx'
              obtain ⟨h1, h2⟩ := hbk t' x' hx'
              refine ⟨by omega, fun p => ?_⟩
              rw [hmem p, h2 p]
              simp [htt]
        · have hj' : j = row.length := by omega
          subst hj'
          (conv => whnf); rw [w64 (x := (q : Int) + 1) (by omega) (by omega)]
          refine ⟨rfl, q + 1, by simp, ⟨by omega, ha2.trans ha3, by omega, vs, bk, htab, hbkl, fun t x hx => ?_⟩, by omega⟩
          obtain ⟨g1, g2⟩ := hbk t x hx
          refine ⟨by rw [Nat.succ_mul]; omega, fun p => ?_⟩
          rw [g2 p]
          unfold Noted
          constructor
          · rintro ⟨q', row', h1, h2, ⟨h3, h4⟩ | ⟨h3, h4⟩⟩
            · exact ⟨q', row', h1, h2, .inl ⟨by omega, h4⟩⟩
            · exact ⟨q', row', h1, h2, .inl ⟨by omega, List.mem_of_mem_take h4⟩⟩
          · rintro ⟨q', row', h1, h2, ⟨h3, h4⟩ | ⟨h3, h4⟩⟩
            · by_cases hqq : q' = q
              · rw [hqq, hrow] at h2; cases h2
                exact ⟨q', _, h1, by rw [hqq]; exact hrow, .inr ⟨hqq, by rw [List.take_length]; exact h4⟩⟩
              · exact ⟨q', row', h1, h2, .inl ⟨by omega, h4⟩⟩
            · simp at h4
    · have hq' : q = rows.length := by omega
      subst hq'
      have hbko : BkOk rows bk := ⟨hbkl, fun t x hx p => by
        rw [(hbk t x hx).2 p]
        unfold Noted
        constructor
        · rintro ⟨q', row, h1, h2, ⟨h3, h4⟩ | ⟨_, h4⟩⟩
          · exact ⟨q', row, h1, h2, h4⟩
          · simp at h4
        · rintro ⟨q', row, h1, h2, h4⟩
          exact ⟨q', row, h1, h2, .inl ⟨(List.getElem?_eq_some_iff.1 h2).1, h4⟩⟩⟩
      have hnb2 := htab.blk.lt
      have hback := htab.view (S' := fun k => nb ≤ k ∧ k < H2.size) hbkl.symm (by simp [maxLen]; omega) (fun k h1 h2 => ⟨h1, h2⟩) (fun k hk => hk.elim)
      clear hbk
      (conv => whnf); refine fa fl102_2 ?_
      (conv => whnf); refine ld1 ct23 (by rw [hb2.cell, Nat.zero_add]; exact autoL_257 hcl) trivial ?_
      (conv => whnf); refine vmake1 sl24 rfl (by omega) (by omega) (by omega) (by omega) ?_
      intro ab H3 hab hs3 hb3a ha3
      rw [Int.toNat_natCast] at hb3a
      have hb3 := hb2.agr ha3 (show pb < ab by omega)
      (conv => whnf); refine fa fl102_4 ?_
      (conv => whnf); refine st1 ct24 hb3 (by rw [autoL_len hcl]; omega) rfl ?_
      intro H4 hb4 ha4 hs4
      rw [Nat.zero_add, autoL_set259 hcl] at hb4
      replace hb3a := hb3a.agr ha4 (show ab ≠ pb by omega)
      have hA24 : Agr (fun k => k < H2.size ∧ k ≠ pb) H2 H4 := (ha3.mono fun k hk => by omega).trans (ha4.mono fun k hk => hk.2)
      (conv => whnf); refine fa fl102_3 ?_
      (conv => whnf); refine ld1 ct24 (by rw [hb4.cell, Nat.zero_add]; exact autoL_258 hcl) trivial ?_
      (conv => whnf)
      refine VLoop.mk [7, 61] (fun x : Nat × Value => [x.2, .int .i64 x.1]) (fun x H5 => x.1 ≤ rows.length ∧ Agr (fun k => k < H2.size ∧ k ≠ pb) H2 H5 ∧ H4.size ≤ H5.size ∧
        Blk H5 pb 102 (autoL cv cell (.slice an rows.length capn) (.slice af final.length capf) (.slice (some ⟨ab, 0, none⟩) (rows.length : Int).toNat (rows.length : Int).toNat)) ∧
        ∃ al td, al.length = rows.length ∧ Blk H5 ab 4 (al.map .bool) ∧ SlO tI (fun _ => False) H5 (ab + 1) 3 x.2 td ∧
          (∀ q, al[q]? = some true ↔ q < x.1 ∧ final[q]? = some true) ∧ (∀ q : Nat, al[q]? = some true → (q : Int) ∈ td) ∧ (∀ y ∈ td, ∃ q : Nat, y = (q : Int) ∧ al[q]? = some true) ∧ td.length + nF al = rows.length) (fun x _ => rows.length - x.1) ?_ ?_
      · (conv => whnf)
        refine ⟨(0, _), rfl, by omega, hA24, Nat.le_refl _, hb4, List.replicate rows.length false, [], by simp, by simpa using hb3a, SlO.nil, fun q => ⟨fun h => ?_, fun h => by omega⟩, fun q h => ?_, (fun y hy => by cases hy), by simp [nF, List.count_replicate]⟩
        · rw [List.getElem?_replicate] at h; split at h <;> simp at h
        · rw [List.getElem?_replicate] at h; split at h <;> simp at h
      · rintro ⟨i, v7⟩ H5 junk2 ⟨hi, hA5, hs5, hb5, al, td, hall, hb5a, htd, hal1, hal2, hal3, hal4⟩
        dsimp only at hi htd hal1
        (conv => whnf); refine VIte.mk (fun h => ?_) (fun h => ?_) <;> simp only [decide_eq_true_eq, decide_eq_false_iff_not] at h
        · have hA25 := hA2.trans (hA5.mono fun k hk => by omega)
          obtain ⟨f, hfi⟩ := get_some (l := final) (k := i) (by omega)
          (conv => whnf); refine VSeq.run ?_
          (conv => whnf); refine ixr sl24 (hf.frame (hA25.mono fun k hk => hS k hk)) hfi rfl ?_
          rintro b3 o3 cs3 hSb3 hcells3 rfl
          (conv => whnf); refine ld1 ct4 hcells3.one trivial ?_
          (conv => whnf); refine VIte.mk (fun h2 => ?_) (fun h2 => ?_)
          · subst h2
            have hfal : al[i]? = some false := by
              cases hx : al[i]? with
              | none => rw [List.getElem?_eq_none_iff] at hx; omega
              | some b =>
                cases b with
                | false => rfl
                | true => have := ((hal1 i).1 hx).1; omega
            (conv => whnf); refine fa fl102_4 ?_
            (conv => whnf); refine ld1 ct24 (by rw [hb5.cell, Nat.zero_add]; exact autoL_259 hcl) trivial ?_
            (conv => whnf); refine ix sl24 (by omega) (by omega) ?_
            (conv => whnf); refine st1 ct4 hb5a (by simp; omega) rfl ?_
            intro H6 hb6a ha6 hs6
            rw [show 0 + (i : Int).toNat * 1 = i by omega] at hb6a
            (conv => whnf); refine vbuild1 sl36 [.int .i64 (i : Int)] rfl rfl (by decide) (by decide) ?_
            intro q7 H7 hq7 hs7 hb7 ha7
            have hl5 := hb5.lt
            have hl5a := hb5a.lt
            have htd7 : SlO tI (fun _ => False) H7 (ab + 1) 3 v7 td := (htd.agr ha6 (fun b hb => by have := htd.lt hb; omega) (fun k hk => hk.elim)).agr ha7 (fun b hb => by have := htd.lt hb; omega) (fun k hk => hk.elim)
            have hnf := nF_set hfal
            (conv => whnf); refine vappendO (T := tI) (S := fun _ => False) (ys := [(i : Int)]) (ds := [.int .i64 (i : Int)]) (lo := ab + 1) (xs := td) sl36 htd7 (by omega) (fun k hk => hk.elim)
              (hb7.cells (fun j v hv => by simpa using hv)) (Ty.reps_one ⟨rfl, inI64 (by omega)⟩) rfl (by intro u hu; cases List.mem_singleton.1 hu; rfl) (by simp only [maxLen, List.length_singleton]; omega) (by simp only [List.length_singleton]; omega) ?_
            intro v8 H8 hown8 ha8 hs8 hfresh8
            (conv => whnf); rw [w64 (x := (i : Int) + 1) (by omega) (by omega)]
            have hsb : ∀ k, slB v7 k → ab + 1 ≤ k := fun k hk => (htd.lt hk).1
            refine ⟨rfl, (i + 1, v8), rfl, ⟨by dsimp only; omega, ?_, by omega, ?_, al.set i true, td ++ [(i : Int)], by simp [hall], ?_, hown8, fun q => ?_, fun q hq => ?_, fun y hy => ?_, ?_⟩, by dsimp only; omega⟩
            · intro k hk
              rw [ha8 k ⟨by omega, fun hb => by have := hsb k hb; omega⟩, ha7 k (by omega), ha6 k (by omega), hA5 k hk]
            · exact ((hb5.agr ha6 (by omega)).agr ha7 (by omega)).agr ha8 ⟨by omega, fun hb => by have := hsb _ hb; omega⟩
            · rw [List.map_set]
              exact (hb6a.agr ha7 (by omega)).agr ha8 ⟨by omega, fun hb => by have := hsb _ hb; omega⟩
            · dsimp only
              by_cases hqi : i = q
              · subst hqi
                rw [List.getElem?_set_self (by omega)]
                exact ⟨fun _ => ⟨by omega, hfi⟩, fun _ => rfl⟩
              · rw [List.getElem?_set_ne hqi, hal1 q]
                constructor
                · rintro ⟨h1, h2⟩; exact ⟨by omega, h2⟩
                · rintro ⟨h1, h2⟩; exact ⟨by omega, h2⟩
            · by_cases hqi : i = q
              · subst hqi; exact List.mem_append_right _ (List.mem_singleton.2 rfl)
              · rw [List.getElem?_set_ne hqi] at hq
                exact List.mem_append_left _ (hal2 q hq)
            · rcases List.mem_append.1 hy with hy | hy
              · obtain ⟨q, h1, h2⟩ := hal3 y hy
                refine ⟨q, h1, ?_⟩
                by_cases hqi : i = q
                · subst hqi; rw [List.getElem?_set_self (by omega)]
                · rw [List.getElem?_set_ne hqi]; exact h2
              · rw [List.mem_singleton] at hy
                exact ⟨i, hy, by rw [List.getElem?_set_self (by omega)]⟩
            · simp only [List.length_append, List.length_singleton]; omega
          · subst h2
            (conv => whnf); rw [w64 (x := (i : Int) + 1) (by omega) (by omega)]
            refine ⟨rfl, (i + 1, v7), rfl, ⟨by dsimp only; omega, hA5, hs5, hb5, al, td, hall, hb5a, htd, fun q => ?_, hal2, hal3, hal4⟩, by dsimp only; omega⟩
            rw [hal1 q]
            dsimp only
            constructor
            · rintro ⟨h1, h2⟩; exact ⟨by omega, h2⟩
            · rintro ⟨h1, h2⟩
              refine ⟨?_, h2⟩
              by_cases hqi : q = i
              · subst hqi; rw [hfi] at h2; cases h2
              · omega
        · have hi' : i = rows.length := by omega
          subst hi'
          have hwi : WI rows final bk al td none := by
            refine ⟨hall, fun q hq => .fin ((hal1 q).1 hq).2, fun q hq => (hal1 q).2 ⟨?_, hq⟩, hal3, by omega, fun q x hq hx => .inl (hal2 q hq)⟩
            rw [← hfl]; exact (List.getElem?_eq_some_iff.1 hq).1
          clear hal1 hal2 hal3 hal4
          (conv => whnf)
          refine VLoop.mk [7] (fun x : Value × List Bool × List Int => [x.1]) (fun x H6 => Agr (fun k => k < H2.size ∧ k ≠ pb) H2 H6 ∧ H5.size ≤ H6.size ∧
            Blk H6 pb 102 (autoL cv cell (.slice an rows.length capn) (.slice af final.length capf) (.slice (some ⟨ab, 0, none⟩) (rows.length : Int).toNat (rows.length : Int).toNat)) ∧
            Blk H6 ab 4 (x.2.1.map .bool) ∧ SlO tI (fun _ => False) H6 (ab + 1) 3 x.1 x.2.2 ∧ WI rows final bk x.2.1 x.2.2 none) (fun x _ => 2 * nF x.2.1 + x.2.2.length) ?_ ?_
          · (conv => whnf)
            exact ⟨(v7, al, td), rfl, hA5, Nat.le_refl _, hb5, hb5a, htd, hwi⟩
          · clear htd hwi hb5a hb5 hA5 hall
            rintro ⟨v7, al, td⟩ H6 junk3 ⟨hA6, hs6, hb6, hb6a, htd, hwi⟩
            dsimp only at htd hb6a hwi
            obtain ⟨at7, cap7, rfl, hv7, hsb7⟩ := htd.view (S' := fun k => ab + 1 ≤ k ∧ k < H6.size) (fun k hk => htd.lt hk) (fun k hk => hk.elim)
            (conv => whnf); refine VIte.mk (fun h => ?_) (fun h => ?_) <;> simp only [decide_eq_true_eq, decide_eq_false_iff_not] at h
            · obtain ⟨td0, y, rfl⟩ : ∃ td0 y, td = td0 ++ [y] := ⟨td.dropLast, td.getLast (by intro h2; subst h2; simp at h), (List.dropLast_concat_getLast _).symm⟩
              obtain ⟨q, rfl, hqt⟩ := hwi.tdok y (by simp)
              have hql : q < rows.length := by have := (List.getElem?_eq_some_iff.1 hqt).1; have := hwi.len; omega
              have htl : (td0 ++ [(q : Int)]).length = td0.length + 1 := by simp
              have hcnt := hwi.cnt
              (conv => whnf); refine ixr (i := td0.length) (x := (q : Int)) sl36 hv7 (by simp) (by rw [w64 (by omega) (by omega)]; omega) ?_
              rintro b3 o3 cs3 hSb3 hcells3 ⟨rfl, -⟩
              (conv => whnf); refine ld1 ct3 hcells3.one trivial ?_
              (conv => whnf); rw [w64 (x := ((td0 ++ [(q : Int)]).length : Int) - 1) (by omega) (by omega)]
              refine vcutH sl36 (by omega) (by have := hv7.le; omega) ?_
              rw [show (((td0 ++ [(q : Int)]).length : Int) - 1).toNat = td0.length by omega]
              have htd0 := htd.pop
              clear htd hv7
              obtain ⟨xb, hxb⟩ := get_some (l := bk) (k := q) (by omega)
              have hback6 := hback.frame (hA6.mono fun k hk => by omega)
              (conv => whnf); refine ixrn sl23 hback6 (by omega) hxb rfl ?_
              rintro b4 o4 cs4 hSb4 hcells4 ⟨xa, xc, rfl, hxa⟩
              (conv => whnf); refine ld1 ct36 hcells4.one trivial ?_
              (conv => whnf)
              refine VLoop.mk [7, 97] (fun x : Nat × Value × List Bool × List Int => [x.2.1, .int .i64 x.1]) (fun x H7 => x.1 ≤ xb.length ∧ Agr (fun k => k < H2.size ∧ k ≠ pb) H6 H7 ∧ H6.size ≤ H7.size ∧
                Blk H7 pb 102 (autoL cv cell (.slice an rows.length capn) (.slice af final.length capf) (.slice (some ⟨ab, 0, none⟩) (rows.length : Int).toNat (rows.length : Int).toNat)) ∧
                Blk H7 ab 4 (x.2.2.1.map .bool) ∧ SlO tI (fun _ => False) H7 (ab + 1) 3 x.2.1 x.2.2.2 ∧ WI rows final bk x.2.2.1 x.2.2.2 (some (q, x.1)) ∧ x.2.2.1[q]? = some true ∧ 2 * nF x.2.2.1 + x.2.2.2.length ≤ 2 * nF al + td0.length)
                (fun x _ => xb.length - x.1) ?_ ?_
              · (conv => whnf)
                exact ⟨(0, _, al, td0), rfl, by dsimp only; omega, Agr.refl _ _, Nat.le_refl _, hb6, hb6a, htd0, hwi.pop, hqt, Nat.le_refl _⟩
              · clear hb6 hb6a htd0
                rintro ⟨j, v7, al2, td⟩ H7 junk4 ⟨hj, hA7, hs7, hb7, hb7a, htd, hwi2, hqt2, hmeas⟩
                dsimp only at hj htd hb7a hwi2 hqt2 hmeas
                (conv => whnf); refine VIte.mk (fun h2 => ?_) (fun h2 => ?_) <;> simp only [decide_eq_true_eq, decide_eq_false_iff_not] at h2
                · obtain ⟨p, hpj⟩ := get_some (l := xb) (k := j) (by omega)
                  obtain ⟨pn, prow, rfl, hprow, -⟩ := (hbko.2 q xb hxb p).1 (List.mem_of_getElem? hpj)
                  have hpl : pn < rows.length := (List.getElem?_eq_some_iff.1 hprow).1
                  have hall := hwi2.len
                  have hcnt2 := hwi2.cnt
                  obtain ⟨f, hpf⟩ := get_some (l := al2) (k := pn) (by omega)
                  have hl7 := hb7.lt
                  have hl7a := hb7a.lt
                  (conv => whnf); refine VSeq.run ?_
                  (conv => whnf); refine ixr sl36 (hxa.frame (hA7.mono fun k hk => by omega)) hpj rfl ?_
                  rintro b5 o5 cs5 hSb5 hcells5 ⟨rfl, -⟩
                  (conv => whnf); refine ld1 ct3 hcells5.one trivial ?_
                  (conv => whnf); refine fa fl102_4 ?_
                  (conv => whnf); refine ld1 ct24 (by rw [hb7.cell, Nat.zero_add]; exact autoL_259 hcl) trivial ?_
                  (conv => whnf); refine ix sl24 (by omega) (by omega) ?_
                  (conv => whnf); refine ld1 (v := .bool f) ct4 (by rw [hb7a.cell, show 0 + (pn : Int).toNat * 1 = pn by omega, List.getElem?_map, hpf]; rfl) trivial ?_
                  (conv => whnf); refine VIte.mk (fun h3 => ?_) (fun h3 => ?_)
                  · obtain rfl : f = false := by simpa using h3
                    have hnf := nF_set hpf
                    (conv => whnf); refine fa fl102_4 ?_
                    (conv => whnf); refine ld1 ct24 (by rw [hb7.cell, Nat.zero_add]; exact autoL_259 hcl) trivial ?_
                    (conv => whnf); refine ix sl24 (by omega) (by omega) ?_
                    (conv => whnf); refine st1 ct4 hb7a (by simp; omega) rfl ?_
                    intro H8 hb8a ha8 hs8
                    rw [show 0 + (pn : Int).toNat * 1 = pn by omega] at hb8a
                    (conv => whnf); refine vbuild1 sl36 [.int .i64 (pn : Int)] rfl rfl (by decide) (by decide) ?_
                    intro q9 H9 hq9 hs9 hb9 ha9
                    have htd9 : SlO tI (fun _ => False) H9 (ab + 1) 3 v7 td := (htd.agr ha8 (fun b hb => by have := htd.lt hb; omega) (fun k hk => hk.elim)).agr ha9 (fun b hb => by have := htd.lt hb; omega) (fun k hk => hk.elim)
                    (conv => whnf); refine vappendO (T := tI) (S := fun _ => False) (ys := [(pn : Int)]) (ds := [.int .i64 (pn : Int)]) (lo := ab + 1) (xs := td) sl36 htd9 (by omega) (fun k hk => hk.elim)
                      (hb9.cells (fun j v hv => by simpa using hv)) (Ty.reps_one ⟨rfl, inI64 (by omega)⟩) rfl (by intro u hu; cases List.mem_singleton.1 hu; rfl) (by simp only [maxLen, List.length_singleton]; omega) (by simp only [List.length_singleton]; omega) ?_
                    intro v10 H10 hown10 ha10 hs10 hfresh10
                    (conv => whnf); rw [w64 (x := (j : Int) + 1) (by have := hxa.le; simp only [maxLen] at this; omega) (by have := hxa.le; simp only [maxLen] at this; omega)]
                    have hsb : ∀ k, slB v7 k → ab + 1 ≤ k := fun k hk => (htd.lt hk).1
                    refine ⟨rfl, (j + 1, v10, al2.set pn true, td ++ [(pn : Int)]), rfl, ⟨by dsimp only; omega, ?_, by omega, ?_, ?_, hown10, hwi2.mark hbko hqt2 hxb hpj hpf, ?_, ?_⟩, by dsimp only; omega⟩
                    · intro k hk
                      rw [ha10 k ⟨by omega, fun hb => by have := hsb k hb; omega⟩, ha9 k (by omega), ha8 k (by omega), hA7 k hk]
                    · exact ((hb7.agr ha8 (by omega)).agr ha9 (by omega)).agr ha10 ⟨by omega, fun hb => by have := hsb _ hb; omega⟩
                    · dsimp only
                      rw [List.map_set]
                      exact (hb8a.agr ha9 (by omega)).agr ha10 ⟨by omega, fun hb => by have := hsb _ hb; omega⟩
                    · dsimp only
                      by_cases hpq : pn = q
                      · subst hpq; rw [List.getElem?_set_self (by omega)]
                      · rw [List.getElem?_set_ne hpq]; exact hqt2
                    · simp only [List.length_append, List.length_singleton]; omega
                  · obtain rfl : f = true := by simpa using h3
                    (conv => whnf); rw [w64 (x := (j : Int) + 1) (by have := hxa.le; simp only [maxLen] at this; omega) (by have := hxa.le; simp only [maxLen] at this; omega)]
                    exact ⟨rfl, (j + 1, v7, al2, td), rfl, ⟨by dsimp only; omega, hA7, hs7, hb7, hb7a, htd, hwi2.skip hxb hpj hpf, hqt2, hmeas⟩, by dsimp only; omega⟩
                · have hj' : j = xb.length := by omega
                  subst hj'
                  (conv => whnf)
                  exact ⟨rfl, (v7, al2, td), rfl, ⟨hA6.trans hA7, by omega, hb7, hb7a, htd, hwi2.done hxb⟩, by dsimp only; omega⟩
            · have htd0 : td = [] := List.eq_nil_of_length_eq_zero (by omega)
              subst htd0
              (conv => whnf)
              have hall := hwi.len
              have hl6 := hb6.lt
              refine ⟨hA2.trans (hA6.mono fun k hk => by omega), by omega, al, some ⟨ab, 0, none⟩, rows.length, hall, fun q _ => hwi.finish hbko (fun row hrow => (hrows row hrow).2) q, ?_, ?_⟩
              · rw [hall]; exact hb6
              · have hl6a := hb6a.lt
                refine SlD.intro (show H.size ≤ ab ∧ ab < H6.size by omega) (by omega) (by simp only [maxLen]; omega) (hb6a.cells (cs := al.map .bool) (fun j v hv => by rw [Nat.zero_add]; exact hv)) (reps_of_ones (by simp) fun i v x hv hx => ?_)
                rw [List.getElem?_map, hx] at hv
                cases hv; rfl

end Go.Proofs.Ytkgmhkcncemmkaa
