import Derived.Test.YtkgmhkcncemmkaaPRefA
import Derived.Test.YtkgmhkcncemmkaaPLives
/- The document's automata as data; its New. -/
set_option linter.unusedVariables false
set_option linter.unusedSimpArgs false
set_option maxRecDepth 100000
namespace Go.Proofs.Ytkgmhkcncemmkaa
open Go.VC
attribute [local irreducible] mRun atRun

structure DM where
  cell : List Int
  reps : List Int
  next : List (List Int)
  final : List Bool
structure DfaV (S : Nat → Prop) (H : Heap) (v : Value) (D : DM) : Prop where
  len : D.cell.length = 256
  rep : ∃ ra rc na nc fa fc, v = .agg (dfaL D.cell (.slice ra D.reps.length rc) (.slice na D.next.length nc) (.slice fa D.final.length fc)).toArray ∧ SlD tI S H ra rc D.reps ∧ SlD tRows S H na nc D.next ∧ SlD tBool S H fa fc D.final
theorem DfaV.frame {S : Nat → Prop} {H H' : Heap} {v : Value} {D : DM} (h : DfaV S H v D) (k : Agr S H H') : DfaV S H' v D := by
  obtain ⟨hl, ra, rc, na, nc, fa, fc, e, h1, h2, h3⟩ := h
  exact ⟨hl, ra, rc, na, nc, fa, fc, e, h1.frame k, h2.frame k, h3.frame k⟩
theorem DfaV.mono {S S' : Nat → Prop} {H : Heap} {v : Value} {D : DM} (h : DfaV S H v D) (k : ∀ i, S i → S' i) : DfaV S' H v D := by
  obtain ⟨hl, ra, rc, na, nc, fa, fc, e, h1, h2, h3⟩ := h
  exact ⟨hl, ra, rc, na, nc, fa, fc, e, h1.mono k, h2.mono k, h3.mono k⟩
def rowR (cells : List (BitVec 256)) (f : List Nat) (row : List Int) : List Int := f.map fun r => row.getD (cellOf cells r) 0
def madeD (cells : List (BitVec 256)) (next : List (List Int)) (final : List Bool) : DM :=
  ⟨asI (atRun cells 256).2, asI (atRun cells 256).1, next.map (rowR cells (atRun cells 256).1), final⟩
def noneD : DM := ⟨List.replicate 256 0, [0], [[0]], [false]⟩

theorem set_same {α : Type} {l : List α} {k : Nat} {x : α} (h : l[k]? = some x) : l.set k x = l := by
  obtain ⟨h1, rfl⟩ := List.getElem?_eq_some_iff.1 h
  exact List.set_getElem_self h1
theorem cntTo_mono (cells : List (BitVec 256)) (b : Nat) {c d : Nat} (h : c ≤ d) : cntTo cells c b ≤ cntTo cells d b := by
  unfold cntTo
  exact List.Sublist.length_le (List.Sublist.filter _ (List.take_sublist_take_left h))
theorem cell_unique {cells : List (BitVec 256)} {next : List (List Int)} {fl : Nat} (h : soundB cells next fl = true) {b c : Nat} {x : BitVec 256} (hb : b < 256) (hx : cells[c]? = some x) : x.getLsbD b = decide (cellOf cells b = c) := by
  have h1 := soundB_cells h hb
  have hcnt := (soundB_iff.1 h).2.1 b hb
  by_cases he : cellOf cells b = c
  · rw [decide_eq_true he]; exact h1.2 x (by rw [he]; exact hx)
  · rw [decide_eq_false he]
    rcases Nat.lt_or_ge c (cellOf cells b) with hlt | hge
    · exact cellOf_before hlt hx
    · cases hbit : x.getLsbD b with
      | false => rfl
      | true =>
        obtain ⟨y, hy⟩ := get_some h1.1
        have hyb := h1.2 y hy
        have e1 := cntTo_succ (b := b) hy
        have e2 := cntTo_succ (b := b) hx
        have e3 := cntTo_mono cells b (show cellOf cells b + 1 ≤ c by omega)
        have e4 := cntTo_mono cells b (show c + 1 ≤ cells.length by have := (List.getElem?_eq_some_iff.1 hx).1; omega)
        rw [cntTo_all] at e4
        unfold ind at e1 e2
        rw [hyb, if_pos rfl] at e1
        rw [hbit, if_pos rfl] at e2
        omega
theorem rowR_len (cells : List (BitVec 256)) (f : List Nat) (row : List Int) : (rowR cells f row).length = f.length := by simp [rowR]

set_option maxHeartbeats 8000000 in
theorem refnew_c (ca na fa : Option Addr) (cc nc fc : Nat) (cells : List (BitVec 256)) (next : List (List Int)) (final : List Bool) (S : Nat → Prop) (H : Heap) (hS : ∀ k, S k → k < H.size) (hc : SlD tB S H ca cc cells) (hn : SlD tRows S H na nc next) (hf : SlD tBool S H fa fc final)
    (hcn : cells.length ≤ 4194304) (hsound : soundB cells next final.length = true) :
    FnOk Try.prog 47 #[.slice ca cells.length cc, .slice na next.length nc, .slice fa final.length fc] H fun v H' => Agr (Old H) H H' ∧ H.size ≤ H'.size ∧ DfaV (Fresh H H') H' v (madeD cells next final) := by
  have hok := atRun_ok cells 256
  have hfl := hok.flen
  obtain ⟨hn1, hn2, hn3, hrows⟩ := soundB_rows hsound
  refine FnOk.of_vc Try.func47 rfl (Try.call47 _) ?_
  (conv => whnf); refine valloc _ (dfaL (List.replicate 256 0) (.slice none 0 0) (.slice none 0 0) (.slice none 0 0)) rfl (by kernel_rfl) ?_
  intro p1 H1 hp1 hs1 hb1 ha1
  have hA1 : Agr (Old H) H H1 := ha1.mono fun j hj => by unfold Old at hj; omega
  (conv => whnf); refine VCall.mk (parted_c ca cc cells S H1 (fun k hk => old_lt hA1 (hS k hk)) (hc.frame (hA1.mono hS)) hcn) ?_
  rintro v2 H2 ⟨ha2, hs2, ra, rc, rfl, hr⟩
  have hA2 := hA1.trans (ha2.mono fun k hk => old_lt hA1 hk)
  have hb12 := hb1.agr ha2 (show p1 < H1.size by omega)
  have hok2 : ∀ g ∈ (atRun cells 256).1, g < 256 := fun g hg => by obtain ⟨i, hi⟩ := List.getElem?_of_mem hg; exact (hok.first i g hi).1
  generalize hfeq : (atRun cells 256).1 = f at *
  have hpl : (asI (atRun cells 256).2).length = 256 := by rw [asI_len, hok.plen]
  generalize hpeq : asI (atRun cells 256).2 = ps at *
  have hl259 : ∀ nv fv, (dfaL ps (.slice ra f.length rc) nv fv).length = 259 := fun nv fv => dfaL_len hpl
  (conv => whnf); refine valloc _ (dfaL (List.replicate 256 0) (.slice none 0 0) (.slice none 0 0) (.slice none 0 0)) rfl (by kernel_rfl) ?_
  intro p3 H3 hp3 hs3 hb3 ha3
  (conv => whnf); refine VC.stN (cs := dfaL ps (.slice ra f.length rc) (.slice none 0 0) (.slice none 0 0)) (by rw [hl259]; rfl) hb3 (Nat.le_of_eq (by rw [hl259, dfaL_len (by simp)])) (dfaL_ones rfl rfl rfl) ?_
  intro H4 hb4 ha4 hs4
  rw [splice_all (by rw [hl259, dfaL_len (by simp)])] at hb4
  have hA4 : Agr (Old H) H H4 := (hA2.trans (ha3.mono fun k hk => by have := old_lt hA2 hk; omega)).trans (ha4.mono fun k hk => by have := old_lt hA2 hk; omega)
  have h24 : Agr (fun j => j < H2.size) H2 H4 := (ha3.mono fun j hj => by omega).trans (ha4.mono fun j hj => by omega)
  have hb14 := hb12.agr h24 (show p1 < H2.size by omega)
  have hr4 : SlD tI (fun j => H1.size ≤ j ∧ j < H2.size) H4 ra rc (asI f) := hr.frame (h24.mono fun j hj => hj.2)
  have hnn : next.length ≤ 65536 := hn2
  (conv => whnf)
  refine VLoop.mk [8] (fun q : Nat => [.int .i64 q]) (fun q H5 => q ≤ next.length ∧ Agr (fun j => j < H4.size ∧ j ≠ p3) H4 H5 ∧ H4.size ≤ H5.size ∧ ∃ vn vf Sr, Blk H5 p3 38 (dfaL ps (.slice ra f.length rc) vn vf) ∧
    SlO tRows Sr H5 H4.size 36 vn ((next.map (rowR cells f)).take q) ∧ SlO tBool (fun _ => False) H5 H4.size 4 vf (final.take q) ∧ (∀ j, Sr j → H4.size ≤ j ∧ j < H5.size ∧ ¬ slB vn j ∧ ¬ slB vf j) ∧ (∀ j, slB vn j → ¬ slB vf j)) (fun q _ => next.length - q) ?_ ?_
  · (conv => whnf)
    exact ⟨0, rfl, by omega, Agr.refl _ _, Nat.le_refl _, .slice none 0 0, .slice none 0 0, fun _ => False, hb4, by rw [List.take_zero]; exact SlO.nil, by rw [List.take_zero]; exact SlO.nil, fun _ f => f.elim, fun j hj => by obtain ⟨o, n, c, h⟩ := hj; cases h⟩
  · rintro q H5 junk ⟨hq, ha5, hs5, vn, vf, Sr, hb5, hvn, hvf, hSr, hap⟩
    have hp34 : p3 < H4.size := hb4.lt
    have hA5 : Agr (Old H) H H5 := hA4.trans (ha5.mono fun j hj => ⟨old_lt hA4 hj, by have := old_lt hA2 hj; omega⟩)
    (conv => whnf); refine VIte.mk (fun h => ?_) (fun h => ?_) <;> simp only [decide_eq_true_eq, decide_eq_false_iff_not] at h
    · obtain ⟨row, hrow⟩ := get_some (l := next) (k := q) (by omega)
      obtain ⟨fin, hfin⟩ := get_some (l := final) (k := q) (by omega)
      have hrl := (hrows row (List.mem_of_getElem? hrow)).1
      have hin : ∀ {r : Nat}, r ∈ f → (∃ t, row[cellOf cells r]? = some t ∧ row.getD (cellOf cells r) 0 = t ∧ 0 ≤ t ∧ t < 65536) := fun {r} hr => by
        have h1 := (soundB_cells hsound (hok2 r hr)).1
        obtain ⟨t, ht⟩ := get_some (l := row) (k := cellOf cells r) (by omega)
        have h2 := (hrows row (List.mem_of_getElem? hrow)).2 t (List.mem_of_getElem? ht)
        exact ⟨t, ht, by rw [List.getD_eq_getElem?_getD, ht]; rfl, h2.1, by omega⟩
      (conv => whnf); refine VC.fa fl38_1 ?_
      (conv => whnf); refine ld1 (v := .slice ra f.length rc) ct36 (by rw [hb5.cell, Nat.zero_add]; exact dfaL_256 hpl) trivial ?_
      (conv => whnf); refine vmake1 sl36 rfl (by omega) (by omega) (by omega) (by omega) ?_
      intro rb H6 hrb hs6 hb6 ha6
      rw [Int.toNat_natCast] at hb6
      have hrow0 : SlO tI (fun _ => False) H6 H5.size 3 (.slice (some ⟨rb, 0, none⟩) f.length f.length) ((rowR cells f row).take 0 ++ List.replicate ((rowR cells f row).length - 0) 0) := by
        rw [fill_beg, rowR_len]
        exact SlO.made (T := tI) (v := (0 : Int)) (c := [.int .i64 0]) (by omega) (by simpa using hb6) ⟨rfl, inI64 (x := 0) (by decide)⟩ (by unfold maxLen; omega)
      have hb56 := hb5.agr ha6 (show p3 < rb by omega)
      (conv => whnf)
      refine VLoop.mk [10] (fun k : Nat => [.int .i64 k]) (fun k H7 => k ≤ f.length ∧ Agr (fun j => j ≠ rb) H6 H7 ∧ H7.size = H6.size ∧ SlO tI (fun _ => False) H7 H5.size 3 (.slice (some ⟨rb, 0, none⟩) f.length f.length) ((rowR cells f row).take k ++ List.replicate ((rowR cells f row).length - k) 0)) (fun k _ => f.length - k) ?_ ?_
      · (conv => whnf); exact ⟨0, rfl, by omega, Agr.refl _ _, rfl, hrow0⟩
      · rintro k H7 junk7 ⟨hk, ha7, hs7, hrow7⟩
        have hb57 := hb56.agr ha7 (show p3 ≠ rb by omega)
        have hA7 : Agr (Old H) H H7 := (hA5.trans (ha6.mono fun j hj => by have := old_lt hA5 hj; omega)).trans (ha7.mono fun j hj => by have := old_lt hA5 hj; omega)
        have h47 : Agr (fun j => j < H4.size ∧ j ≠ p3) H4 H7 := (ha5.trans (ha6.mono fun j hj => by omega)).trans (ha7.mono fun j hj => by omega)
        have hrl' := rowR_len cells f row
        (conv => whnf); refine VC.fa fl38_1 ?_
        (conv => whnf); refine ld1 (v := .slice ra f.length rc) ct36 (by rw [hb57.cell, Nat.zero_add]; exact dfaL_256 hpl) trivial ?_
        (conv => whnf); refine VIte.mk (fun h => ?_) (fun h => ?_) <;> simp only [decide_eq_true_eq, decide_eq_false_iff_not] at h
        · obtain ⟨r, hrk⟩ := get_some (l := f) (k := k) (by omega)
          have hr256 := hok2 r (List.mem_of_getElem? hrk)
          obtain ⟨t, ht, htD, ht0, ht1⟩ := hin (List.mem_of_getElem? hrk)
          have hgetR : (rowR cells f row)[k]? = some t := by unfold rowR; rw [List.getElem?_map, hrk]; exact congrArg some htD
          have hcl := (soundB_cells hsound hr256).1
          (conv => whnf)
          refine VLoop.mk [11] (fun c : Nat => [.int .i64 c]) (fun c H8 => c ≤ cells.length ∧ Agr (fun j => j ≠ rb) H7 H8 ∧ H8.size = H7.size ∧ SlO tI (fun _ => False) H8 H5.size 3 (.slice (some ⟨rb, 0, none⟩) f.length f.length)
            (((rowR cells f row).take k ++ List.replicate ((rowR cells f row).length - k) 0).set k (if cellOf cells r < c then t else 0))) (fun c _ => cells.length - c) ?_ ?_
          · (conv => whnf)
            refine ⟨0, rfl, by omega, Agr.refl _ _, rfl, ?_⟩
            rw [if_neg (by omega)]
            have hself := set_same (fill_get (l := rowR cells f row) (z := (0 : Int)) (show k < (rowR cells f row).length by omega))
            rw [hself]; exact hrow7
          · rintro c H8 junk8 ⟨hcn8, ha8, hs8, hrow8⟩
            have hb58 := hb57.agr ha8 (show p3 ≠ rb by omega)
            have hA8 : Agr (Old H) H H8 := hA7.trans (ha8.mono fun j hj => by have := old_lt hA5 hj; omega)
            have hr8 : SlD tI (fun j => H1.size ≤ j ∧ j < H2.size) H8 ra rc (asI f) := hr4.frame ((h47.trans (ha8.mono fun j hj => by omega)).mono fun j hj => by omega)
            (conv => whnf); refine VIte.mk (fun h => ?_) (fun h => ?_) <;> simp only [decide_eq_true_eq, decide_eq_false_iff_not] at h
            · obtain ⟨x, hx⟩ := get_some (l := cells) (k := c) (by omega)
              have huniq := cell_unique hsound hr256 hx
              (conv => whnf); refine VSeq.run ?_
              (conv => whnf); refine VDraw.lex rfl (by kernel_rfl) ?_
              (conv => whnf); refine VC.fa fl38_1 ?_
              (conv => whnf); refine ld1 (v := .slice ra f.length rc) ct36 (by rw [hb58.cell, Nat.zero_add]; exact dfaL_256 hpl) trivial ?_
              (conv => whnf); refine ixrn sl36 hr8 (asI_len _).symm (asI_get hrk) rfl ?_
              rintro b6 o6 cs6 hSb6 hcells6 ⟨rfl, -⟩
              (conv => whnf); refine ld1 ct3 hcells6.one trivial ?_
              (conv => whnf); refine ixr slB_ (hc.frame (hA8.mono hS)) hx rfl ?_
              rintro b7 o7 cs7 hSb7 hcells7 rfl
              (conv => whnf); refine ixa ar138 (by omega) (by omega) ?_
              (conv => whnf); refine ld1 (v := .bool (x.getLsbD r)) ct4 (by rw [show o7 + ((r : Nat) : Int).toNat * 1 = o7 + r by omega]; exact hcells7 r _ (bitsL_get x hr256)) trivial ?_
              rw [huniq]
              (conv => whnf); refine VIte.mk (fun hbit => ?_) (fun hbit => ?_) <;> simp only [decide_eq_true_eq, decide_eq_false_iff_not] at hbit
              · subst hbit
                obtain ⟨-, -, -, l9, hblk9, hlen9, -, hput9⟩ := hrow8.placeS (i := k) (by rw [List.length_set, fill_len (by omega)]; omega)
                have hsz : k * tI.size = k := Nat.mul_one k
                have hsz1 : tI.size = 1 := rfl
                (conv => whnf); refine ixr sl23 (hn.frame (hA8.mono hS)) hrow rfl ?_
                rintro b9 o9 cs9 hSb9 hcells9 ⟨xa, xc, rfl, hxr⟩
                (conv => whnf); refine ld1 ct36 hcells9.one trivial ?_
                (conv => whnf); refine ixr sl36 hxr ht rfl ?_
                rintro b10 o10 cs10 hSb10 hcells10 ⟨rfl, -⟩
                (conv => whnf); refine ld1 ct3 hcells10.one trivial ?_
                (conv => whnf); refine ix sl36 (by omega) (by omega) ?_
                (conv => whnf); refine st1 ct3 hblk9 (by omega) rfl ?_
                intro H10 hb10 ha10 hs10
                rw [show 0 + ((k : Nat) : Int).toNat * 1 = k * tI.size by show 0 + ((k : Nat) : Int).toNat * 1 = k * 1; omega] at hb10
                have hrow10 := hput9 H10 [.int .i64 t] t (by rw [← splice_one (show k * tI.size < l9.length by omega)] at hb10; exact hb10) (fun j hj => hj.elim) ⟨rfl, by show (-9223372036854775808 : Int) ≤ t; omega, by show t ≤ (9223372036854775807 : Int); omega⟩
                rw [List.set_set] at hrow10
                (conv => whnf); rw [w64 (x := (cellOf cells r : Int) + 1) (by omega) (by omega)]
                exact ⟨rfl, cellOf cells r + 1, by simp, ⟨by omega, ha8.trans (ha10.mono fun j hj => hj), by omega, by rw [if_pos (by omega)]; exact hrow10⟩, by omega⟩
              · (conv => whnf); rw [w64 (x := (c : Int) + 1) (by omega) (by omega)]
                refine ⟨rfl, c + 1, by simp, ⟨by omega, ha8, by omega, ?_⟩, by omega⟩
                have : (cellOf cells r < c + 1) ↔ (cellOf cells r < c) := by omega
                simp only [this]
                exact hrow8
            · rw [if_pos (by omega), fill_set hgetR] at hrow8
              (conv => whnf); rw [w64 (x := (k : Int) + 1) (by omega) (by omega)]
              exact ⟨rfl, k + 1, by simp, ⟨by omega, ha7.trans ha8, by omega, hrow8⟩, by omega⟩
        · obtain rfl : k = f.length := by omega
          have hfe := fill_end (l := rowR cells f row) (z := (0 : Int))
          rw [hrl'] at hfe hrow7
          rw [hfe] at hrow7
          have hvn7 : SlO tRows Sr H7 H4.size 36 vn ((next.map (rowR cells f)).take q) := (hvn.agr ha6 (S' := fun j => j < rb) (fun j hj => by have := (hvn.lt hj).2; omega) (fun j hj => by have := hSr j hj; omega)).agr (S' := fun j => j ≠ rb) ha7 (fun j hj => by have := (hvn.lt hj).2; omega) (fun j hj => by have := hSr j hj; omega)
          have hvf7 := (hvf.agr ha6 (fun j hj => by have := (hvf.lt hj).2; omega) (fun _ f => f.elim)).agr ha7 (fun j hj => by have := (hvf.lt hj).2; omega) (fun _ f => f.elim)
          obtain ⟨xa, xcap, e1, hxd, -⟩ := hrow7.view (S' := fun j => j = rb) (fun j hj => by obtain ⟨o, n, c, e⟩ := hj; cases e; rfl) (fun _ f => f.elim)
          injection e1 with e2 e3 e4
          subst e2; subst e4
          (conv => whnf); refine VC.fa fl38_2 ?_
          (conv => whnf); refine ld1 (v := vn) ct23 (by rw [hb57.cell, Nat.zero_add]; exact dfaL_257 hpl) trivial ?_
          (conv => whnf); refine vbuild1 sl23 [.slice (some ⟨rb, 0, none⟩) f.length f.length] rfl rfl (by decide) (by decide) ?_
          intro q8 H8 hq8 hs8 hb8 ha8
          have hnewS : ∀ j, (Sr j ∨ j = rb) → j < H8.size ∧ ¬ slB vn j := fun j hj => by
            rcases hj with hj | rfl
            · have := hSr j hj; exact ⟨by omega, this.2.2.1⟩
            · exact ⟨by omega, fun hb => by have := (hvn.lt hb).2; omega⟩
          have hvn8 : SlO tRows (fun j => Sr j ∨ j = rb) H8 H4.size 36 vn ((next.map (rowR cells f)).take q) := (hvn7.agr ha8 (fun j hj => by have := (hvn.lt hj).2; omega) (fun j hj => by have := hSr j hj; omega)).mono fun j hj => .inl hj
          have hqn : ((next.map (rowR cells f)).take q).length = q := by rw [List.length_take, List.length_map]; omega
          (conv => whnf); refine vappendO (T := tRows) (S := fun j => Sr j ∨ j = rb) (ys := [rowR cells f row]) (ds := [.slice (some ⟨rb, 0, none⟩) f.length f.length]) (lo := H4.size) (xs := (next.map (rowR cells f)).take q) sl23 hvn8 (by omega) hnewS
              (hb8.cells (fun j v hv => by simpa using hv)) (Ty.reps_one ⟨some ⟨rb, 0, none⟩, f.length, by rw [hrl'], (hxd.frame (ha8.mono fun j hj => by omega)).mono fun j hj => .inr hj⟩) rfl (by intro u hu; cases List.mem_singleton.1 hu; rfl) (by rw [hqn]; simp only [maxLen, List.length_singleton]; omega) (by rw [hqn]; simp only [List.length_singleton]; omega) ?_
          intro v9 H9 hvn9 ha9 hs9 hfr9
          have hb59 : Blk H9 p3 38 (dfaL ps (.slice ra f.length rc) vn vf) := (hb57.agr ha8 (show p3 < q8 by omega)).agr ha9 ⟨by omega, fun hb => by have := (hvn.lt hb).1; omega⟩
          (conv => whnf); refine VC.fa fl38_2 ?_
          (conv => whnf); refine st1 ct23 hb59 (by rw [hl259]; omega) hvn9.one ?_
          intro H10 hb10 ha10 hs10
          rw [Nat.zero_add, dfaL_put257 hpl] at hb10
          have hrb_ne : ∀ j, slB vn j → j ≠ rb := fun j hj => by have := (hvn.lt hj).2; omega
          have hvn10 : SlO tRows (fun j => Sr j ∨ j = rb) H10 H4.size 36 v9 ((next.map (rowR cells f)).take q ++ [rowR cells f row]) := hvn9.agr ha10 (fun j hj => by have := (hvn9.lt hj).1; omega) (fun j hj => by
            rcases hj with hj | rfl
            · have := hSr j hj; omega
            · omega)
          have hvf8 := hvf7.agr ha8 (fun j hj => by have := (hvf.lt hj).2; omega) (fun _ f => f.elim)
          have hvf9 := hvf8.agr ha9 (fun j hj => ⟨(hvf8.lt hj).2, fun hb => hap j hb hj⟩) (fun _ f => f.elim)
          have hvf10 := hvf9.agr ha10 (fun j hj => by have := (hvf9.lt hj).1; omega) (fun _ f => f.elim)
          have hap9 : ∀ j, slB v9 j → ¬ slB vf j := fun j hj hj' => by
            rcases hfr9 j hj with h | h
            · exact hap j h hj'
            · have := (hvf8.lt hj').2; omega
          have hSr9 : ∀ j, Sr j ∨ j = rb → H4.size ≤ j ∧ j < H10.size ∧ ¬ slB v9 j ∧ ¬ slB vf j := fun j hj => by
            have h1 := hnewS j hj
            refine ⟨?_, by omega, fun hb => ?_, fun hb => ?_⟩
            · rcases hj with hj | rfl
              · exact (hSr j hj).1
              · omega
            · rcases hfr9 j hb with h | h
              · exact h1.2 h
              · omega
            · rcases hj with hj | rfl
              · exact (hSr j hj).2.2.2 hb
              · have := (hvf.lt hb).2; omega
          have hA10 : Agr (Old H) H H10 := ((hA7.trans (ha8.mono fun j hj => by have := old_lt hA7 hj; omega)).trans (ha9.mono fun j hj => ⟨by have := old_lt hA7 hj; omega, fun hb => by have := (hvn.lt hb).1; have := old_lt hA4 hj; omega⟩)).trans (ha10.mono fun j hj => by have := old_lt hA2 hj; omega)
          have h410 : Agr (fun j => j < H4.size ∧ j ≠ p3) H4 H10 := ((h47.trans (ha8.mono fun j hj => by omega)).trans (ha9.mono fun j hj => ⟨by omega, fun hb => by have := (hvn.lt hb).1; omega⟩)).trans (ha10.mono fun j hj => hj.2)
          (conv => whnf)
          have hnof : ∀ j, j < H4.size → ¬ slB vf j := fun j hj hb => by have := (hvf.lt hb).1; omega
          refine VDraw.held (fun j => j < H10.size ∧ ¬ slB vf j) 9 (sq [0,1,2,3,4,5] (.f 6 (.f 7 (sq [8] (.f 9 .e))))) rfl (by kernel_rfl) ?_
          (conv => whnf); refine VC.fa fl38_3 ?_
          (conv => whnf); refine ld1 (v := vf) ct24 (by rw [hb10.cell, Nat.zero_add]; exact dfaL_258 hpl) ⟨hb10.lt, hnof _ hp34⟩ ?_
          (conv => whnf); refine ixr sl24 (hf.frame (hA10.mono hS)) hfin rfl ?_
          rintro b11 o11 cs11 hSb11 hcells11 rfl
          (conv => whnf); refine ld1 ct4 hcells11.one ⟨old_lt hA10 (hS _ hSb11), hnof _ (old_lt hA4 (hS _ hSb11))⟩ ?_
          (conv => whnf); refine vbuild1 sl24 [.bool fin] rfl rfl (by decide) (by decide) ?_
          intro q12 H12 hq12 hs12 hb12' ha12
          refine ⟨ha12.mono fun j hj => by omega, ?_⟩
          have hvf12 := hvf10.agr ha12 (fun j hj => by have := (hvf10.lt hj).2; omega) (fun _ f => f.elim)
          have hfq : (final.take q).length = q := by rw [List.length_take]; omega
          (conv => whnf); refine vappendO (T := tBool) (S := fun _ => False) (ys := [fin]) (ds := [.bool fin]) (lo := H4.size) (xs := final.take q) sl24 hvf12 (by omega) (fun j hj => hj.elim)
              (hb12'.cells (fun j v hv => by simpa using hv)) (Ty.reps_one rfl) rfl (by intro u hu; cases List.mem_singleton.1 hu; rfl) (by rw [hfq]; simp only [maxLen, List.length_singleton]; omega) (by rw [hfq]; simp only [List.length_singleton]; omega) ?_
          intro v13 H13 hvf13 ha13 hs13 hfr13
          refine ⟨(ha12.mono fun j hj => by omega).trans (ha13.mono fun j hj => ⟨by omega, hj.2⟩), ?_⟩
          have hb13 : Blk H13 p3 38 (dfaL ps (.slice ra f.length rc) v9 vf) := (hb10.agr ha12 (show p3 < q12 by omega)).agr ha13 ⟨by omega, hnof _ hp34⟩
          (conv => whnf); refine VC.fa fl38_3 ?_
          (conv => whnf); refine st1 ct24 hb13 (by rw [hl259]; omega) hvf13.one ?_
          intro H14 hb14 ha14 hs14
          rw [Nat.zero_add, dfaL_put258 hpl] at hb14
          have hvf14 := hvf13.agr ha14 (fun j hj => by have := (hvf13.lt hj).1; omega) (fun _ f => f.elim)
          have hvn12 := hvn10.agr ha12 (fun j hj => by have := (hvn10.lt hj).2; omega) (fun j hj => by have := hSr9 j hj; omega)
          have hvn13 := hvn12.agr ha13 (fun j hj => ⟨(hvn12.lt hj).2, hap9 j hj⟩) (fun j hj => by have := hSr9 j hj; exact ⟨by omega, this.2.2.2⟩)
          have hvn14 := hvn13.agr ha14 (fun j hj => by have := (hvn13.lt hj).1; omega) (fun j hj => by have := hSr9 j hj; omega)
          (conv => whnf); rw [w64 (x := (q : Int) + 1) (by omega) (by omega)]
          refine ⟨rfl, q + 1, by simp, ⟨by omega, ?_, by omega, v9, v13, fun j => Sr j ∨ j = rb, hb14, ?_, ?_, fun j hj => ?_, fun j hj hj' => ?_⟩, by omega⟩
          · exact ((h410.trans (ha12.mono fun j hj => by omega)).trans (ha13.mono fun j hj => ⟨by omega, hnof j hj.1⟩)).trans (ha14.mono fun j hj => hj.2)
          · rw [take_succ_snoc (x := rowR cells f row) (by rw [List.getElem?_map, hrow]; rfl)]; exact hvn14
          · rw [take_succ_snoc hfin]; exact hvf14
          · have h1 := hSr9 j hj
            refine ⟨h1.1, by omega, h1.2.2.1, fun hb => ?_⟩
            rcases hfr13 j hb with h | h
            · exact h1.2.2.2 h
            · omega
          · rcases hfr13 j hj' with h | h
            · exact hap9 j hj h
            · have := (hvn12.lt hj).2; omega
    · obtain rfl : q = next.length := by omega
      have hml : (next.map (rowR cells f)).length = next.length := List.length_map _
      rw [show (next.map (rowR cells f)).take next.length = next.map (rowR cells f) by rw [← hml, List.take_length]] at hvn
      rw [show final.take next.length = final by rw [hn3, List.take_length]] at hvf
      have hnS : ∀ j, slB vn j → H4.size ≤ j ∧ j < H5.size := fun j hj => hvn.lt hj
      obtain ⟨xa, xcap, rfl, hxd, -⟩ := hvn.view (S' := fun j => H4.size ≤ j ∧ j < H5.size) hnS (fun j hj => by have := hSr j hj; omega)
      obtain ⟨ya, ycap, rfl, hyd, -⟩ := hvf.view (S' := fun j => H4.size ≤ j ∧ j < H5.size) (fun j hj => hvf.lt hj) (fun _ f => f.elim)
      have hb15 := hb14.agr ha5 ⟨by omega, by omega⟩
      have hr5 : SlD tI (fun j => H1.size ≤ j ∧ j < H2.size) H5 ra rc (asI f) := hr4.frame (ha5.mono fun j hj => by omega)
      (conv => whnf); refine ldN (cs := dfaL ps (.slice ra f.length rc) (.slice xa (next.map (rowR cells f)).length xcap) (.slice ya final.length ycap)) (by rw [hl259]; exact ag38) (hb5.cells fun j v hv => by rw [Nat.zero_add]; exact hv) trivial ?_
      (conv => whnf); refine VC.stN (cs := dfaL ps (.slice ra f.length rc) (.slice xa (next.map (rowR cells f)).length xcap) (.slice ya final.length ycap)) (by rw [hl259]; rfl) hb15 (Nat.le_of_eq (by rw [hl259, dfaL_len (by simp)])) (dfaL_ones rfl rfl rfl) ?_
      intro H6 hb6 ha6 hs6
      rw [splice_all (by rw [hl259, dfaL_len (by simp)])] at hb6
      (conv => whnf); refine ldN (cs := dfaL ps (.slice ra f.length rc) (.slice xa (next.map (rowR cells f)).length xcap) (.slice ya final.length ycap)) (by rw [hl259]; exact ag38) (hb6.cells fun j v hv => by rw [Nat.zero_add]; exact hv) trivial ?_
      have hup : ∀ j, H4.size ≤ j ∧ j < H5.size → Fresh H H6 j := fun j hj => by unfold Fresh; have := old_size hA2; omega
      refine ⟨hA5.trans (ha6.mono fun j hj => by unfold Old at hj; omega), by omega, ⟨by simp only [madeD]; rw [hpeq]; exact hpl, ra, rc, xa, xcap, ya, ycap, ?_, ?_, ?_, ?_⟩⟩
      · simp only [madeD, hfeq, hpeq, asI_len]
      · simp only [madeD, hfeq]
        exact (hr5.frame (ha6.mono fun j hj => by omega)).mono fun j hj => by unfold Fresh; omega
      · simp only [madeD, hfeq]
        exact (hxd.frame (ha6.mono fun j hj => by omega)).mono hup
      · exact (hyd.frame (ha6.mono fun j hj => by omega)).mono hup

end Go.Proofs.Ytkgmhkcncemmkaa

/- The document's None, Whole, Made, Step, IsFinal, Accepts. -/
set_option linter.unusedVariables false
set_option linter.unusedSimpArgs false
set_option maxRecDepth 100000
namespace Go.Proofs.Ytkgmhkcncemmkaa
open Go.VC
attribute [local irreducible] mRun atRun

theorem none_c (H : Heap) : FnOk Try.prog 46 #[] H fun v H' => Agr (Old H) H H' ∧ H.size ≤ H'.size ∧ DfaV (Fresh H H') H' v noneD := by
  refine FnOk.of_vc Try.func46 rfl (Try.call46 _) ?_
  (conv => whnf); refine valloc _ (dfaL (List.replicate 256 0) (.slice none 0 0) (.slice none 0 0) (.slice none 0 0)) rfl (by kernel_rfl) ?_
  intro p1 H1 hp1 hs1 hb1 ha1
  (conv => whnf); refine vbuild1 sl36 [.int .i64 0] rfl rfl (by decide) (by decide) ?_
  intro b2 H2 hb2 hs2 hk2 ha2
  (conv => whnf); refine vbuild1 sl36 [.int .i64 0] rfl rfl (by decide) (by decide) ?_
  intro b3 H3 hb3 hs3 hk3 ha3
  (conv => whnf); refine vbuild1 sl23 [.slice (some ⟨b3, 0, none⟩) 1 1] rfl rfl (by decide) (by decide) ?_
  intro b4 H4 hb4 hs4 hk4 ha4
  (conv => whnf); refine vbuild1 sl24 [.bool false] rfl rfl (by decide) (by decide) ?_
  intro b5 H5 hb5 hs5 hk5 ha5
  (conv => whnf); refine vbuildS rfl rfl _ rfl (dfaL (List.replicate 256 0) (.slice (some ⟨b2, 0, none⟩) 1 1) (.slice (some ⟨b4, 0, none⟩) 1 1) (.slice (some ⟨b5, 0, none⟩) 1 1)) (by kernel_rfl) ?_
  have hb15 := (((hb1.agr ha2 (show p1 < b2 by omega)).agr ha3 (show p1 < b3 by omega)).agr ha4 (show p1 < b4 by omega)).agr ha5 (show p1 < b5 by omega)
  have hk25 := ((hk2.agr ha3 (show b2 < b3 by omega)).agr ha4 (show b2 < b4 by omega)).agr ha5 (show b2 < b5 by omega)
  have hk35 := (hk3.agr ha4 (show b3 < b4 by omega)).agr ha5 (show b3 < b5 by omega)
  have hk45 := hk4.agr ha5 (show b4 < b5 by omega)
  have hl259 : (dfaL (List.replicate 256 0) (.slice (some ⟨b2, 0, none⟩) 1 1) (.slice (some ⟨b4, 0, none⟩) 1 1) (.slice (some ⟨b5, 0, none⟩) 1 1)).length = 259 := dfaL_len (by simp)
  (conv => whnf); refine VC.stN (cs := dfaL (List.replicate 256 0) (.slice (some ⟨b2, 0, none⟩) 1 1) (.slice (some ⟨b4, 0, none⟩) 1 1) (.slice (some ⟨b5, 0, none⟩) 1 1)) (by rw [hl259]; rfl) hb15 (Nat.le_of_eq (by rw [hl259, dfaL_len (by simp)])) (dfaL_ones rfl rfl rfl) ?_
  intro H6 hb6 ha6 hs6
  rw [splice_all (by rw [hl259, dfaL_len (by simp)])] at hb6
  (conv => whnf); refine ldN (cs := dfaL (List.replicate 256 0) (.slice (some ⟨b2, 0, none⟩) 1 1) (.slice (some ⟨b4, 0, none⟩) 1 1) (.slice (some ⟨b5, 0, none⟩) 1 1)) (by rw [hl259]; exact ag38) (hb6.cells fun j v hv => by rw [Nat.zero_add]; exact hv) trivial ?_
  have z : ∀ {b : Nat}, Blk H6 b 3 [.int .i64 0] → Fresh H H6 b → SlD tI (Fresh H H6) H6 (some ⟨b, 0, none⟩) 1 [0] := fun h hf => SlD.ofBlk h hf (Ty.reps_one ⟨rfl, inI64 (x := 0) (by decide)⟩) rfl (by decide)
  refine ⟨((((((ha1.mono fun j hj => by unfold Old at hj; omega).trans (ha2.mono fun j hj => by unfold Old at hj; omega)).trans (ha3.mono fun j hj => by unfold Old at hj; omega)).trans (ha4.mono fun j hj => by unfold Old at hj; omega)).trans (ha5.mono fun j hj => by unfold Old at hj; omega)).trans (ha6.mono fun j hj => by unfold Old at hj; omega)), by omega, by simp [noneD], _, _, _, _, _, _, rfl, ?_, ?_, ?_⟩
  · exact z (hk25.agr ha6 (show b2 ≠ p1 by omega)) ⟨by omega, by omega⟩
  · exact SlD.ofBlk (hk45.agr ha6 (show b4 ≠ p1 by omega)) ⟨by omega, by omega⟩ (Ty.reps_one ⟨_, _, rfl, z (hk35.agr ha6 (show b3 ≠ p1 by omega)) ⟨by omega, by omega⟩⟩) rfl (by decide)
  · exact SlD.ofBlk (hk5.agr ha6 (show b5 ≠ p1 by omega)) ⟨by omega, by omega⟩ (Ty.reps_one rfl) rfl (by decide)

theorem whole_p (v : Value) (cells : List (BitVec 256)) (next : List (List Int)) (final : List Bool) (S : Nat → Prop) (H : Heap) (ht : TabIn S H v cells next final) :
    Pure Try.prog 45 #[v] H (.bool (soundB cells next final.length)) := by
  obtain ⟨hS, ⟨ca, na, fa, cc, nc, fc, rfl, hc, hn, hf⟩, cn, nn, rn, fn⟩ := ht
  refine FnOk.of_vc Try.func45 rfl (Try.call45 _) ?_
  (conv => whnf); refine vbox [.slice ca cells.length cc, .slice na next.length nc, .slice fa final.length fc] rfl ?_
  intro pb H1 hpb hs1 hb1 ha1
  have hA1 : Agr (Old H) H H1 := ha1.mono fun j hj => by unfold Old at hj; omega
  (conv => whnf); refine VDraw.held (Old H1) 7 (sq [0,2,3,4,5] (.f 1 (.f 6 (.f 7 .e)))) rfl (by kernel_rfl) ?_
  (conv => whnf); refine ldN (cs := [.slice ca cells.length cc, .slice na next.length nc, .slice fa final.length fc]) ag26 (hb1.cells (fun j v hv => by rw [Nat.zero_add]; exact hv)) hb1.lt ?_
  (conv => whnf); refine VC.fa fl26_1 ?_
  (conv => whnf); refine ld1 ct23 (by rw [hb1.cell]; rfl) hb1.lt ?_
  (conv => whnf); refine VC.fa fl26_2 ?_
  (conv => whnf); refine ld1 ct24 (by rw [hb1.cell]; rfl) hb1.lt ?_
  (conv => whnf); refine VCall.mk (sets_l _ _ ca cc cells S H1 (fun k hk => old_lt hA1 (hS k hk)) (hc.frame (hA1.mono hS)) (by omega)) ?_
  rintro v3 H3 ⟨ha3, hs3, bc, rfl, hbc, own1⟩
  have hA3 := hA1.trans (ha3.mono fun k hk => old_lt hA1 hk)
  refine ⟨ha3, ?_⟩
  obtain ⟨xa, xc, e1, hx, -⟩ := own1.view (S' := Old H3) (fun j hj => (own1.lt hj).2) (fun _ f => f.elim)
  injection e1 with e2 e3 e4
  subst e2; subst e4
  have hn3 : SlD tRows (Old H3) H3 na nc next := (hn.frame (hA3.mono hS)).mono fun k hk => old_lt hA3 (hS k hk)
  (conv => whnf); refine pures (refsound_p (some ⟨bc, 0, none⟩) na fa cells.length nc final.length fc cells next (Old H3) H3 (fun k hk => hk) hx hn3 (by omega) (by omega) (by omega)) fun H4 ha4 => ?_
  refine ⟨ha3.trans (ha4.mono fun k hk => old_lt ha3 hk), ?_⟩
  (conv => whnf)
  exact ⟨rfl, hA3.trans (ha4.mono fun k hk => old_lt hA3 hk)⟩

def dfaOf (cells : List (BitVec 256)) (next : List (List Int)) (final : List Bool) : DM := if soundB cells next final.length then madeD cells next final else noneD
theorem made_c (v : Value) (cells : List (BitVec 256)) (next : List (List Int)) (final : List Bool) (S : Nat → Prop) (H : Heap) (ht : TabIn S H v cells next final) :
    FnOk Try.prog 19 #[v] H fun v H' => Agr (Old H) H H' ∧ H.size ≤ H'.size ∧ DfaV (Fresh H H') H' v (dfaOf cells next final) := by
  have ht' := ht
  obtain ⟨hS, ⟨ca, na, fa, cc, nc, fc, rfl, hc, hn, hf⟩, cn, nn, rn, fn⟩ := ht
  refine FnOk.of_vc Try.func19 rfl (Try.call19 _) ?_
  (conv => whnf); refine vbox [.slice ca cells.length cc, .slice na next.length nc, .slice fa final.length fc] rfl ?_
  intro pb H1 hpb hs1 hb1 ha1
  (conv => whnf); refine valloc _ (dfaL (List.replicate 256 0) (.slice none 0 0) (.slice none 0 0) (.slice none 0 0)) rfl (by kernel_rfl) ?_
  intro p2 H2 hp2 hs2 hb2 ha2
  have hA2 : Agr (Old H) H H2 := (ha1.mono fun j hj => by unfold Old at hj; omega).trans (ha2.mono fun j hj => by unfold Old at hj; omega)
  have hb12 := hb1.agr ha2 (show pb < p2 by omega)
  have htab : ∀ {H' : Heap}, Agr (Old H) H H' → TabIn S H' (.agg #[.slice ca cells.length cc, .slice na next.length nc, .slice fa final.length fc]) cells next final := fun h =>
    ⟨fun k hk => old_lt h (hS k hk), ⟨ca, na, fa, cc, nc, fc, rfl, hc.frame (h.mono hS), hn.frame (h.mono hS), hf.frame (h.mono hS)⟩, cn, nn, rn, fn⟩
  (conv => whnf); refine ldN (cs := [.slice ca cells.length cc, .slice na next.length nc, .slice fa final.length fc]) ag26 (hb12.cells (fun j v hv => by rw [Nat.zero_add]; exact hv)) trivial ?_
  (conv => whnf); refine pures (whole_p _ cells next final S H2 (htab hA2)) fun H3 ha3 => ?_
  have hA3 := hA2.trans (ha3.mono fun k hk => old_lt hA2 hk)
  have hb13 := hb12.agr ha3 hb12.lt
  have hb23 := hb2.agr ha3 hb2.lt
  have hs3 := old_size ha3
  -- the result in its cell
  have fin : ∀ {H5 H6 : Heap} {v : Value} {D : DM} {r : Value → Heap → Prop}, Agr (Old H) H H5 → H3.size ≤ H5.size → DfaV (Fresh H3 H5) H5 v D → Agr (fun k => k ≠ p2) H5 H6 → H6.size = H5.size →
      Agr (Old H) H H6 ∧ H.size ≤ H6.size ∧ DfaV (Fresh H H6) H6 v D := fun h1 h2 h3 h4 h5 =>
    ⟨h1.trans (h4.mono fun j hj => by unfold Old at hj; omega), by omega, (h3.frame (h4.mono fun j hj => by have := hj.1; omega)).mono fun j hj => ⟨by have := hj.1; omega, by have := hj.2; omega⟩⟩
  unfold dfaOf
  cases hso : soundB cells next final.length with
  | false =>
    (conv => whnf); refine VCall.mk (none_c H3) ?_
    rintro v5 H5 ⟨ha5, hs5, hd⟩
    have hd' := hd
    obtain ⟨hl, ra, rc, xa, xc, ya, yc, rfl, -⟩ := hd'
    have hl259 := dfaL_len (rv := .slice ra noneD.reps.length rc) (nv := .slice xa noneD.next.length xc) (fv := .slice ya noneD.final.length yc) hl
    (conv => whnf); refine VC.stN (cs := dfaL noneD.cell (.slice ra noneD.reps.length rc) (.slice xa noneD.next.length xc) (.slice ya noneD.final.length yc)) (by rw [hl259]; rfl) (hb23.agr ha5 hb23.lt) (Nat.le_of_eq (by rw [hl259, dfaL_len (by simp)])) (dfaL_ones rfl rfl rfl) ?_
    intro H6 hb6 ha6 hs6
    rw [splice_all (by rw [hl259, dfaL_len (by simp)])] at hb6
    (conv => whnf); refine ldN (cs := dfaL noneD.cell (.slice ra noneD.reps.length rc) (.slice xa noneD.next.length xc) (.slice ya noneD.final.length yc)) (by rw [hl259]; exact ag38) (hb6.cells fun j v hv => by rw [Nat.zero_add]; exact hv) trivial ?_
    exact fin (r := fun _ _ => True) (hA3.trans (ha5.mono fun k hk => old_lt hA3 hk)) hs5 hd ha6 hs6
  | true =>
    (conv => whnf); refine VDraw.held (Old H3) 7 (sq [0,2,3,4,5] (.f 1 (.f 6 (.f 7 .e)))) rfl (by kernel_rfl) ?_
    (conv => whnf); refine ldN (cs := [.slice ca cells.length cc, .slice na next.length nc, .slice fa final.length fc]) ag26 (hb13.cells (fun j v hv => by rw [Nat.zero_add]; exact hv)) hb13.lt ?_
    (conv => whnf); refine VC.fa fl26_1 ?_
    (conv => whnf); refine ld1 ct23 (by rw [hb13.cell]; rfl) hb13.lt ?_
    (conv => whnf); refine VC.fa fl26_2 ?_
    (conv => whnf); refine ld1 ct24 (by rw [hb13.cell]; rfl) hb13.lt ?_
    (conv => whnf); refine VCall.mk (sets_l _ _ ca cc cells S H3 (fun k hk => old_lt hA3 (hS k hk)) (hc.frame (hA3.mono hS)) (by omega)) ?_
    rintro v4 H4 ⟨ha4, hs4, bc, rfl, hbc, own1⟩
    have hA4 := hA3.trans (ha4.mono fun k hk => old_lt hA3 hk)
    refine ⟨ha4, ?_⟩
    obtain ⟨xa, xc, e1, hx, -⟩ := own1.view (S' := Old H4) (fun j hj => (own1.lt hj).2) (fun _ f => f.elim)
    injection e1 with e2 e3 e4
    subst e2; subst e4
    have up : ∀ k, S k → Old H4 k := fun k hk => old_lt hA4 (hS k hk)
    (conv => whnf); refine VCall.mk (refnew_c (some ⟨bc, 0, none⟩) na fa cells.length nc fc cells next final (Old H4) H4 (fun k hk => hk) hx ((hn.frame (hA4.mono hS)).mono up) ((hf.frame (hA4.mono hS)).mono up) (by omega) hso) ?_
    rintro v5 H5 ⟨ha5, hs5, hd⟩
    refine ⟨ha4.trans (ha5.mono fun k hk => old_lt ha4 hk), ?_⟩
    have hd' := hd
    obtain ⟨hl, ra, rc, xa, xc, ya, yc, rfl, -⟩ := hd'
    have hl259 := dfaL_len (rv := .slice ra (madeD cells next final).reps.length rc) (nv := .slice xa (madeD cells next final).next.length xc) (fv := .slice ya (madeD cells next final).final.length yc) hl
    (conv => whnf); refine VC.stN (cs := dfaL (madeD cells next final).cell (.slice ra (madeD cells next final).reps.length rc) (.slice xa (madeD cells next final).next.length xc) (.slice ya (madeD cells next final).final.length yc)) (by rw [hl259]; rfl) ((hb23.agr ha4 hb23.lt).agr ha5 (old_lt ha4 hb23.lt)) (Nat.le_of_eq (by rw [hl259, dfaL_len (by simp)])) (dfaL_ones rfl rfl rfl) ?_
    intro H6 hb6 ha6 hs6
    rw [splice_all (by rw [hl259, dfaL_len (by simp)])] at hb6
    (conv => whnf); refine ldN (cs := dfaL (madeD cells next final).cell (.slice ra (madeD cells next final).reps.length rc) (.slice xa (madeD cells next final).next.length xc) (.slice ya (madeD cells next final).final.length yc)) (by rw [hl259]; exact ag38) (hb6.cells fun j v hv => by rw [Nat.zero_add]; exact hv) trivial ?_
    exact fin (r := fun _ _ => True) (hA4.trans (ha5.mono fun k hk => old_lt hA4 hk)) (by omega) (hd.mono fun j hj => ⟨by have := hj.1; omega, hj.2⟩) ha6 hs6

end Go.Proofs.Ytkgmhkcncemmkaa

/- The document's Step, IsFinal, Accepts, Useful, Live. -/
set_option linter.unusedVariables false
set_option linter.unusedSimpArgs false
set_option maxRecDepth 100000
namespace Go.Proofs.Ytkgmhkcncemmkaa
open Go.VC
attribute [local irreducible] mRun atRun

structure DM.Ok (D : DM) : Prop where
  n1 : 1 ≤ D.next.length
  n2 : D.next.length ≤ 65536
  fl : D.final.length = D.next.length
  cell : D.cell.length = 256
  rows : ∀ row ∈ D.next, row.length ≤ 256 ∧ (∀ c ∈ D.cell, 0 ≤ c ∧ c < (row.length : Int)) ∧ ∀ t ∈ row, 0 ≤ t ∧ t < (D.next.length : Int)
def stepD (D : DM) (q : Int) (b : Nat) : Int := if q < 0 ∨ (D.next.length : Int) ≤ q then -1 else ((D.next[q.toNat]?).getD []).getD (D.cell.getD b 0).toNat 0
def finD (D : DM) (q : Int) : Bool := decide (0 ≤ q) && (D.final[q.toNat]?).getD false
theorem dfa_box {S : Nat → Prop} {H : Heap} {v : Value} {D : DM} {K : Value → Heap → Prop} {t : TypeId} (h : DfaV S H v D)
    (k : ∀ ra rc na nc fa fc, v = .agg (dfaL D.cell (.slice ra D.reps.length rc) (.slice na D.next.length nc) (.slice fa D.final.length fc)).toArray → SlD tI S H ra rc D.reps → SlD tRows S H na nc D.next → SlD tBool S H fa fc D.final →
      New H (fun b H' => K (.pointer (some ⟨b, 0, none⟩)) H') t (dfaL D.cell (.slice ra D.reps.length rc) (.slice na D.next.length nc) (.slice fa D.final.length fc))) : VEff Try.prog (Instr.box t v) H K := by
  obtain ⟨hl, ra, rc, na, nc, fa, fc, rfl, h1, h2, h3⟩ := h
  exact vbox (dfaL D.cell (.slice ra D.reps.length rc) (.slice na D.next.length nc) (.slice fa D.final.length fc)) rfl (k ra rc na nc fa fc rfl h1 h2 h3)
theorem stepD_at {D : DM} {q b : Nat} {row : List Int} {c : Nat} {t : Int} (hr : D.next[q]? = some row) (hc : D.cell[b]? = some (c : Int)) (ht : row[c]? = some t) : stepD D (q : Int) b = t := by
  have := (List.getElem?_eq_some_iff.1 hr).1
  unfold stepD
  rw [if_neg (by omega)]
  simp only [Int.toNat_natCast, hr, List.getD_eq_getElem?_getD, hc, Option.getD_some, ht]
theorem DM.Ok.at {D : DM} (h : D.Ok) {q b : Nat} (hq : q < D.next.length) (hb : b < 256) : ∃ row c t, D.next[q]? = some row ∧ D.cell[b]? = some ((c : Nat) : Int) ∧ row[c]? = some t ∧ c < 256 ∧ 0 ≤ t ∧ t < (D.next.length : Int) ∧ t ∈ row := by
  obtain ⟨row, hr⟩ := get_some hq
  obtain ⟨ci, hc⟩ := get_some (l := D.cell) (k := b) (by rw [h.cell]; exact hb)
  obtain ⟨h1, h2, h3⟩ := h.rows row (List.mem_of_getElem? hr)
  obtain ⟨h4, h5⟩ := h2 ci (List.mem_of_getElem? hc)
  obtain ⟨c, rfl⟩ := Int.eq_ofNat_of_zero_le h4
  obtain ⟨t, ht⟩ := get_some (l := row) (k := c) (by omega)
  have := h3 t (List.mem_of_getElem? ht)
  exact ⟨row, c, t, hr, hc, ht, by omega, this.1, this.2, List.mem_of_getElem? ht⟩
theorem refstep_p {S : Nat → Prop} {H : Heap} {v : Value} {D : DM} {q : Int} {b : Nat} (hS : ∀ k, S k → k < H.size) (h : DfaV S H v D) (hok : D.Ok) (hb8 : b < 256) :
    Pure Try.prog 53 #[v, .int .i64 q, .int .u8 (b : Int)] H (.int .i64 (stepD D q b)) := by
  have hlen := h.len
  refine FnOk.of_vc Try.func53 rfl (Try.call53 _) ?_
  (conv => whnf); refine dfa_box h fun ra rc na nc fa fc he h1 h2 h3 => ?_
  subst he
  intro pb H1 hpb hs1 hb1 ha1
  have hA1 : Agr (Old H) H H1 := ha1.mono fun j hj => by unfold Old at hj; omega
  cases q with
  | negSucc n =>
    have hd : decide (Int.negSucc n < 0) = true := decide_eq_true (Int.negSucc_lt_zero n)
    (conv => whnf); rw [hd]
    (conv => whnf); exact ⟨by simp [stepD, Int.negSucc_lt_zero], hA1⟩
  | ofNat n =>
    (conv => whnf); refine VC.fa fl38_2 ?_
    (conv => whnf); refine ld1 ct23 (by rw [hb1.cell, Nat.zero_add]; exact dfaL_257 hlen) trivial ?_
    by_cases hn : D.next.length ≤ n
    · have hd : decide ((D.next.length : Int) ≤ Int.ofNat n) = true := decide_eq_true (by simpa using hn)
      (conv => whnf); rw [hd]
      (conv => whnf); exact ⟨by simp [stepD, hn], hA1⟩
    · have hd : decide ((D.next.length : Int) ≤ Int.ofNat n) = false := decide_eq_false (by simpa using hn)
      obtain ⟨row, c, t, hr, hc, ht, hc256, _⟩ := hok.at (q := n) (b := b) (by omega) hb8
      (conv => whnf); rw [hd]
      (conv => whnf); refine VDraw.lex rfl (by kernel_rfl) ?_
      (conv => whnf); refine VC.fa fl38_2 ?_
      (conv => whnf); refine ld1 ct23 (by rw [hb1.cell, Nat.zero_add]; exact dfaL_257 hlen) trivial ?_
      (conv => whnf); refine ixr sl23 (h2.frame (hA1.mono hS)) hr rfl ?_
      rintro b2 o2 cs2 hSb2 hcells2 ⟨xa, xc, rfl, hx⟩
      (conv => whnf); refine ld1 ct36 hcells2.one trivial ?_
      (conv => whnf); rw [w64 (x := (b : Int)) (by omega) (by omega)]
      (conv => whnf); refine VC.fa fl38_0 ?_
      (conv => whnf); refine ixa ar35 (by omega) (by omega) ?_
      (conv => whnf); refine ld1 (v := .int .i64 (c : Int)) ct3 (by rw [hb1.cell, show 0 + 0 + ((b : Nat) : Int).toNat * 1 = b by omega]; exact dfaL_at hc) trivial ?_
      (conv => whnf); refine ixr sl36 hx ht rfl ?_
      rintro b3 o3 cs3 hSb3 hcells3 ⟨rfl, -⟩
      (conv => whnf); refine ld1 ct3 hcells3.one trivial ?_
      (conv => whnf); exact ⟨by rw [show Int.ofNat n = (n : Int) from rfl, stepD_at hr hc ht], hA1⟩
theorem reffinal_p {S : Nat → Prop} {H : Heap} {v : Value} {D : DM} {q : Int} (hS : ∀ k, S k → k < H.size) (h : DfaV S H v D) :
    Pure Try.prog 80 #[v, .int .i64 q] H (.bool (finD D q)) := by
  have hlen := h.len
  refine FnOk.of_vc Try.func80 rfl (Try.call80 _) ?_
  (conv => whnf); refine dfa_box h fun ra rc na nc fa fc he h1 h2 h3 => ?_
  subst he
  intro pb H1 hpb hs1 hb1 ha1
  have hA1 : Agr (Old H) H H1 := ha1.mono fun j hj => by unfold Old at hj; omega
  cases q with
  | negSucc n =>
    (conv => whnf); exact ⟨rfl, hA1⟩
  | ofNat n =>
    (conv => whnf); refine VC.fa fl38_3 ?_
    (conv => whnf); refine ld1 ct24 (by rw [hb1.cell, Nat.zero_add]; exact dfaL_258 hlen) trivial ?_
    by_cases hnl : n < D.final.length
    · obtain ⟨f, hf⟩ := get_some hnl
      have hd : decide (Int.ofNat n < (D.final.length : Int)) = true := decide_eq_true (by simpa using hnl)
      (conv => whnf); rw [hd]
      (conv => whnf); refine VC.fa fl38_3 ?_
      (conv => whnf); refine ld1 ct24 (by rw [hb1.cell, Nat.zero_add]; exact dfaL_258 hlen) trivial ?_
      (conv => whnf); refine ixr sl24 (h3.frame (hA1.mono hS)) hf rfl ?_
      rintro b3 o3 cs3 hSb3 hcells3 rfl
      (conv => whnf); refine ld1 ct4 hcells3.one trivial ?_
      (conv => whnf); exact ⟨by simp [finD, hf], hA1⟩
    · have hd : decide (Int.ofNat n < (D.final.length : Int)) = false := decide_eq_false (by simpa using hnl)
      (conv => whnf); rw [hd]
      (conv => whnf); exact ⟨by simp [finD, List.getElem?_eq_none (Nat.le_of_not_lt hnl)], hA1⟩

def runD (D : DM) (s : ByteArray) (k : Nat) : Int := (s.data.toList.take k).foldl (fun q b => stepD D q b.toNat) 0
theorem runD_succ {D : DM} {s : ByteArray} {k : Nat} {b : UInt8} (h : s.data[k]? = some b) : runD D s (k + 1) = stepD D (runD D s k) b.toNat := by
  unfold runD
  rw [take_succ_snoc (x := b) (by rw [Array.getElem?_toList]; exact h), List.foldl_append]; rfl
def acceptsD (D : DM) (s : ByteArray) : Bool := finD D (runD D s s.size)
theorem dfa_load {S S0 : Nat → Prop} {H : Heap} {D : DM} {pb : Nat} {ra na fa : Option Addr} {rc nc fc : Nat} {K : Value → Prop} (hb : Blk H pb 38 (dfaL D.cell (.slice ra D.reps.length rc) (.slice na D.next.length nc) (.slice fa D.final.length fc))) (hl : D.cell.length = 256) (hS : S0 pb)
    (h1 : SlD tI S H ra rc D.reps) (h2 : SlD tRows S H na nc D.next) (h3 : SlD tBool S H fa fc D.final) (k : ∀ v, DfaV S H v D → K v) : VDet Try.prog (Instr.loadAt 38 (.pointer (some ⟨pb, 0, none⟩))) S0 H K :=
  ldN (cs := dfaL D.cell (.slice ra D.reps.length rc) (.slice na D.next.length nc) (.slice fa D.final.length fc)) (by rw [dfaL_len hl]; exact ag38) (hb.cells fun j v hv => by rw [Nat.zero_add]; exact hv) hS (k _ ⟨hl, ra, rc, na, nc, fa, fc, rfl, h1, h2, h3⟩)
theorem refaccepts_p {S : Nat → Prop} {H : Heap} {v : Value} {D : DM} {s : ByteArray} (hS : ∀ k, S k → k < H.size) (h : DfaV S H v D) (hok : D.Ok) (hs : s.size ≤ maxLen) :
    Pure Try.prog 55 #[v, .string s] H (.bool (acceptsD D s)) := by
  unfold maxLen at hs
  have hlen := h.len
  refine FnOk.of_vc Try.func55 rfl (Try.call55 _) ?_
  (conv => whnf); refine dfa_box h fun ra rc na nc fa fc he h1 h2 h3 => ?_
  subst he
  intro pb H1 hpb hs1 hb1 ha1
  have hA1 : Agr (Old H) H H1 := ha1.mono fun j hj => by unfold Old at hj; omega
  (conv => whnf)
  refine VLoop.mk [5, 6] (fun k : Nat => [.int .i64 (runD D s k), .int .i64 k]) (fun k H2 => k ≤ s.size ∧ Agr (Old H1) H1 H2) (fun k _ => s.size - k) ?_ ?_
  · (conv => whnf); exact ⟨0, rfl, by omega, Agr.refl _ _⟩
  · rintro k H2 junk ⟨hk, ha2⟩
    have hA2 : Agr (Old H) H H2 := hA1.trans (ha2.mono fun k hk => old_lt hA1 hk)
    have hb2 := hb1.agr ha2 hb1.lt
    have up : ∀ {H' : Heap}, Agr (Old H) H H' → ∀ k, S k → k < H'.size := fun h k hk => old_lt h (hS k hk)
    (conv => whnf); refine VIte.mk (fun h => ?_) (fun h => ?_) <;> simp only [decide_eq_true_eq, decide_eq_false_iff_not] at h
    · obtain ⟨b, hb⟩ := get_byte (s := s) (k := k) (by omega)
      (conv => whnf); refine VDraw.held (Old H2) 6 (sq [0,1,2,3,4] (.f 5 (.f 6 .e))) rfl (by kernel_rfl) ?_
      (conv => whnf); refine dfa_load hb2 hlen hb2.lt (h1.frame (hA2.mono hS)) (h2.frame (hA2.mono hS)) (h3.frame (hA2.mono hS)) fun v2 hv2 => ?_
      (conv => whnf); refine vidxs strT rfl hb ?_
      (conv => whnf); refine pures (refstep_p (up hA2) hv2 hok (UInt8.toNat_lt b)) fun H3 ha3 => ?_
      refine ⟨ha3, ?_⟩
      (conv => whnf); rw [w64 (x := (k : Int) + 1) (by omega) (by omega)]
      exact ⟨rfl, k + 1, by rw [runD_succ hb]; simp, ⟨by omega, ha2.trans (ha3.mono fun k hk => old_lt ha2 hk)⟩, by omega⟩
    · obtain rfl : k = s.size := by omega
      (conv => whnf); refine dfa_load hb2 hlen trivial (h1.frame (hA2.mono hS)) (h2.frame (hA2.mono hS)) (h3.frame (hA2.mono hS)) fun v2 hv2 => ?_
      (conv => whnf); refine pures (reffinal_p (up hA2) hv2) fun H3 ha3 => ?_
      (conv => whnf); exact ⟨rfl, hA2.trans (ha3.mono fun k hk => old_lt hA2 hk)⟩

end Go.Proofs.Ytkgmhkcncemmkaa

/- The document's Useful and Live. -/
set_option linter.unusedVariables false
set_option linter.unusedSimpArgs false
set_option maxRecDepth 100000
namespace Go.Proofs.Ytkgmhkcncemmkaa
open Go.VC
attribute [local irreducible] mRun atRun

def nf (u : List Bool) : Nat := (u.filter fun x => !x).length
theorem nf_set : ∀ {u : List Bool} {q : Nat}, u[q]? = some false → nf (u.set q true) < nf u
  | [], q, h => by simp at h
  | x :: u, 0, h => by
    simp only [List.getElem?_cons_zero, Option.some.injEq] at h
    subst h
    simp [nf]
  | x :: u, q + 1, h => by
    have ih := nf_set (u := u) (q := q) (by simpa using h)
    unfold nf at ih ⊢
    simp only [List.set_cons_succ, List.filter_cons]
    split <;> simp <;> omega
open Classical in
noncomputable def usefulL (D : DM) : List Bool := (List.range D.next.length).map fun q => decide (LiveT D.next D.final q)
/-- What is marked so far. -/
structure MkOk (D : DM) (u : List Bool) : Prop where
  len : u.length = D.next.length
  live : ∀ q : Nat, u[q]? = some true → LiveT D.next D.final q
  fin : ∀ q : Nat, D.final[q]? = some true → u[q]? = some true
def Shut (D : DM) (u : List Bool) (q : Nat) : Prop := u[q]? = some true ∨ ∀ (row : List Int) (t : Nat), D.next[q]? = some row → (t : Int) ∈ row → u[t]? ≠ some true
theorem mk_all {D : DM} {u : List Bool} (h : MkOk D u) (hs : ∀ q, q < D.next.length → Shut D u q) : ∀ {q : Nat}, LiveT D.next D.final q → u[q]? = some true := by
  intro q hl
  induction hl with
  | fin hf => exact h.fin _ hf
  | step hr ht _ ih =>
    rcases hs _ (List.getElem?_eq_some_iff.1 hr).1 with h1 | h1
    · exact h1
    · exact absurd ih (h1 _ _ hr ht)
open Classical in
theorem mk_useful {D : DM} {u : List Bool} (h : MkOk D u) (hs : ∀ q, q < D.next.length → Shut D u q) : u = usefulL D := by
  apply List.ext_getElem?
  intro q
  by_cases hq : q < D.next.length
  · obtain ⟨x, hx⟩ := get_some (l := u) (k := q) (by rw [h.len]; exact hq)
    unfold usefulL
    rw [List.getElem?_map, List.getElem?_range hq, hx]
    simp only [Option.map_some, Option.some.injEq]
    cases x with
    | true => exact (decide_eq_true (h.live q hx)).symm
    | false => exact (decide_eq_false fun hl => by have := mk_all h hs hl; rw [hx] at this; cases this).symm
  · rw [List.getElem?_eq_none (by rw [h.len]; omega), List.getElem?_eq_none (by simp [usefulL]; omega)]
theorem mk_set {D : DM} {u : List Bool} {q t : Nat} {row : List Int} (h : MkOk D u) (hr : D.next[q]? = some row) (ht : (t : Int) ∈ row) (hu : u[t]? = some true) : MkOk D (u.set q true) := by
  have hq := (List.getElem?_eq_some_iff.1 hr).1
  refine ⟨by simp [h.len], fun p hp => ?_, fun p hp => ?_⟩
  · rw [List.getElem?_set] at hp
    split at hp
    · rename_i e; subst e; exact .step hr ht (h.live t hu)
    · exact h.live p hp
  · rw [List.getElem?_set]
    split
    · rename_i e; subst e; rw [if_pos (by rw [h.len]; exact hq)]
    · exact h.fin p hp

end Go.Proofs.Ytkgmhkcncemmkaa

/- The document's Live; both automata of a table step alike. -/
set_option linter.unusedVariables false
set_option linter.unusedSimpArgs false
set_option maxRecDepth 100000
namespace Go.Proofs.Ytkgmhkcncemmkaa
open Go.VC
attribute [local irreducible] mRun atRun

open Classical in
noncomputable def aliveD (D : DM) (q : Int) : Bool := decide (LiveT D.next D.final q.toNat)
noncomputable def liveD (D : DM) (s : ByteArray) : Nat := match (List.range s.size).find? fun i => !aliveD D (runD D s (i + 1)) with
  | some i => i
  | none => if aliveD D 0 then s.size else 0
theorem useful_len (D : DM) : (usefulL D).length = D.next.length := by simp [usefulL]
theorem useful_at {D : DM} {q : Nat} (h : q < D.next.length) : (usefulL D)[q]? = some (aliveD D (q : Int)) := by
  unfold usefulL aliveD
  rw [List.getElem?_map, List.getElem?_range h, Int.toNat_natCast]; rfl
theorem stepD_range {D : DM} (hok : D.Ok) {q : Int} {b : Nat} (h0 : 0 ≤ q) (h1 : q < D.next.length) (hb : b < 256) : 0 ≤ stepD D q b ∧ stepD D q b < D.next.length := by
  obtain ⟨n, rfl⟩ := Int.eq_ofNat_of_zero_le h0
  obtain ⟨row, c, t, hr, hc, ht, _, h2, h3, _⟩ := hok.at (q := n) (b := b) (by omega) hb
  rw [stepD_at hr hc ht]
  exact ⟨h2, h3⟩
theorem runD_range {D : DM} (hok : D.Ok) (s : ByteArray) : ∀ k, k ≤ s.size → 0 ≤ runD D s k ∧ runD D s k < D.next.length
  | 0, _ => ⟨Int.le_refl _, by have := hok.n1; simp only [runD, List.take_zero, List.foldl_nil]; omega⟩
  | k + 1, hk => by
    obtain ⟨b, hb⟩ := get_byte (s := s) (k := k) (by omega)
    obtain ⟨h0, h1⟩ := runD_range hok s k (by omega)
    rw [runD_succ hb]
    exact stepD_range hok h0 h1 (UInt8.toNat_lt b)
end Go.Proofs.Ytkgmhkcncemmkaa

/- Tables in memory: boxed and loaded again. -/
set_option linter.unusedVariables false
set_option linter.unusedSimpArgs false
namespace Go.Proofs.Ytkgmhkcncemmkaa
open Go.VC
section
variable {S : Nat → Prop} {H : Heap} {v : Value} {cells : List (BitVec 256)} {next : List (List Int)} {final : List Bool}
theorem TabIn.frame (h : TabIn S H v cells next final) {H' : Heap} (k : Agr (Old H) H H') : TabIn S H' v cells next final := by
  obtain ⟨hS, ⟨ca, na, fa, cc, nc, fc, rfl, hc, hn, hf⟩, r1, r2, r3, r4⟩ := h
  exact ⟨fun j hj => old_lt k (hS j hj), ⟨ca, na, fa, cc, nc, fc, rfl, hc.frame (k.mono hS), hn.frame (k.mono hS), hf.frame (k.mono hS)⟩, r1, r2, r3, r4⟩
theorem tab_box {t : TypeId} {K : Value → Heap → Prop} (h : TabIn S H v cells next final) (k : ∀ l : List Value, l.length = 3 → v = .agg l.toArray → New H (fun b H' => K (.pointer (some ⟨b, 0, none⟩)) H') t l) : VEff Try.prog (Instr.box t v) H K := by
  obtain ⟨hS, ⟨ca, na, fa, cc, nc, fc, rfl, hc, hn, hf⟩, r1, r2, r3, r4⟩ := h
  exact vbox _ rfl (k [_, _, _] rfl rfl)
theorem tab_load {pb : Nat} {S0 : Nat → Prop} {K : Value → Prop} {l : List Value} (hl : l.length = 3) (hv : v = .agg l.toArray) (hb : Blk H pb 26 l) (hS : S0 pb) (k : K v) : VDet Try.prog (Instr.loadAt 26 (.pointer (some ⟨pb, 0, none⟩))) S0 H K := by
  subst hv
  exact ldN (cs := l) (by rw [hl]; exact ag26) (hb.cells fun j v hv => by rw [Nat.zero_add]; exact hv) hS k
end
end Go.Proofs.Ytkgmhkcncemmkaa
