/- The document's automata as data; its New. -/
import Derived.Test.YtpnnedkpbmilkaaPRef5
set_option linter.unusedVariables false
set_option linter.unusedSimpArgs false
set_option maxRecDepth 100000
namespace Go.Proofs.Ytpnnedkpbmilkaa
open Go.VC
attribute [local irreducible] mRun atRun

structure DM where
  cell : List Int
  reps : List Int
  next : List (List Int)
  final : List Bool
structure DfaV (S : Nat → Prop) (H : Heap) (v : Value) (D : DM) : Prop where
  len : D.cell.length = 256
  rep : ∃ ra rc na nc fa fc, v = .agg (dfaL D.cell (.slice ra D.reps.length rc) (.slice na D.next.length nc) (.slice fa D.final.length fc)).toArray ∧ SlD tI S H ra rc D.reps ∧ SlD tRows S H na nc D.next ∧ SlD tBool S H fa fc D.final
theorem DfaV.frame {S : Nat → Prop} {H H' : Heap} {v : Value} {D : DM} (h : DfaV S H v D) (k : Agr S H H') : DfaV S H' v D := by
  obtain ⟨hl, ra, rc, na, nc, fa, fc, e, h1, h2, h3⟩ := h
  exact ⟨hl, ra, rc, na, nc, fa, fc, e, h1.frame k, h2.frame k, h3.frame k⟩
theorem DfaV.mono {S S' : Nat → Prop} {H : Heap} {v : Value} {D : DM} (h : DfaV S H v D) (k : ∀ i, S i → S' i) : DfaV S' H v D := by
  obtain ⟨hl, ra, rc, na, nc, fa, fc, e, h1, h2, h3⟩ := h
  exact ⟨hl, ra, rc, na, nc, fa, fc, e, h1.mono k, h2.mono k, h3.mono k⟩
def rowR (cells : List (BitVec 256)) (f : List Nat) (row : List Int) : List Int := f.map fun r => row.getD (cellOf cells r) 0
def madeD (cells : List (BitVec 256)) (next : List (List Int)) (final : List Bool) : DM :=
  ⟨asI (atRun cells 256).2, asI (atRun cells 256).1, next.map (rowR cells (atRun cells 256).1), final⟩
def noneD : DM := ⟨List.replicate 256 0, [0], [[0]], [false]⟩

theorem set_same {α : Type} {l : List α} {k : Nat} {x : α} (h : l[k]? = some x) : l.set k x = l := by
  obtain ⟨h1, rfl⟩ := List.getElem?_eq_some_iff.1 h
  exact List.set_getElem_self h1
theorem cntTo_mono (cells : List (BitVec 256)) (b : Nat) {c d : Nat} (h : c ≤ d) : cntTo cells c b ≤ cntTo cells d b := by
  unfold cntTo
  exact List.Sublist.length_le (List.Sublist.filter _ (List.take_sublist_take_left h))
theorem cell_unique {cells : List (BitVec 256)} {next : List (List Int)} {fl : Nat} (h : soundB cells next fl = true) {b c : Nat} {x : BitVec 256} (hb : b < 256) (hx : cells[c]? = some x) : x.getLsbD b = decide (cellOf cells b = c) := by
  have h1 := soundB_cells h hb
  have hcnt := (soundB_iff.1 h).2.1 b hb
  by_cases he : cellOf cells b = c
  · rw [decide_eq_true he]; exact h1.2 x (by rw [he]; exact hx)
  · rw [decide_eq_false he]
    rcases Nat.lt_or_ge c (cellOf cells b) with hlt | hge
    · exact cellOf_before hlt hx
    · cases hbit : x.getLsbD b with
      | false => rfl
      | true =>
        obtain ⟨y, hy⟩ := get_some h1.1
        have hyb := h1.2 y hy
        have e1 := cntTo_succ (b := b) hy
        have e2 := cntTo_succ (b := b) hx
        have e3 := cntTo_mono cells b (show cellOf cells b + 1 ≤ c by omega)
        have e4 := cntTo_mono cells b (show c + 1 ≤ cells.length by have := (List.getElem?_eq_some_iff.1 hx).1; omega)
        rw [cntTo_all] at e4
        unfold ind at e1 e2
        rw [hyb, if_pos rfl] at e1
        rw [hbit, if_pos rfl] at e2
        omega
theorem rowR_len (cells : List (BitVec 256)) (f : List Nat) (row : List Int) : (rowR cells f row).length = f.length := by simp [rowR]

set_option maxHeartbeats 8000000 in
theorem refnew_c (ca na fa : Option Addr) (cc nc fc : Nat) (cells : List (BitVec 256)) (next : List (List Int)) (final : List Bool) (S : Nat → Prop) (H : Heap) (hS : ∀ k, S k → k < H.size) (hc : SlD tB S H ca cc cells) (hn : SlD tRows S H na nc next) (hf : SlD tBool S H fa fc final)
    (hcn : cells.length ≤ 4194304) (hsound : soundB cells next final.length = true) :
    FnOk Try.prog 60 #[.slice ca cells.length cc, .slice na next.length nc, .slice fa final.length fc] H fun v H' => Agr (Old H) H H' ∧ H.size ≤ H'.size ∧ DfaV (Fresh H H') H' v (madeD cells next final) := by
  have hok := atRun_ok cells 256
  have hfl := hok.flen
  obtain ⟨hn1, hn2, hn3, hrows⟩ := soundB_rows hsound
  refine FnOk.of_vc Try.func60 rfl (Try.call60 _) ?_
  (conv => whnf); refine valloc _ (dfaL (List.replicate 256 0) (.slice none 0 0) (.slice none 0 0) (.slice none 0 0)) rfl (by kernel_rfl) ?_
  intro p1 H1 hp1 hs1 hb1 ha1
  have hA1 : Agr (Old H) H H1 := ha1.mono fun j hj => by unfold Old at hj; omega
  (conv => whnf); refine VCall.mk (parted_c ca cc cells S H1 (fun k hk => old_lt hA1 (hS k hk)) (hc.frame (hA1.mono hS)) hcn) ?_
  rintro v2 H2 ⟨ha2, hs2, ra, rc, rfl, hr⟩
  have hA2 := hA1.trans (ha2.mono fun k hk => old_lt hA1 hk)
  have hb12 := hb1.agr ha2 (show p1 < H1.size by omega)
  have hok2 : ∀ g ∈ (atRun cells 256).1, g < 256 := fun g hg => by obtain ⟨i, hi⟩ := List.getElem?_of_mem hg; exact (hok.first i g hi).1
  generalize hfeq : (atRun cells 256).1 = f at *
  have hpl : (asI (atRun cells 256).2).length = 256 := by rw [asI_len, hok.plen]
  generalize hpeq : asI (atRun cells 256).2 = ps at *
  have hl259 : ∀ nv fv, (dfaL ps (.slice ra f.length rc) nv fv).length = 259 := fun nv fv => dfaL_len hpl
  (conv => whnf); refine valloc _ (dfaL (List.replicate 256 0) (.slice none 0 0) (.slice none 0 0) (.slice none 0 0)) rfl (by kernel_rfl) ?_
  intro p3 H3 hp3 hs3 hb3 ha3
  (conv => whnf); refine VC.stN (cs := dfaL ps (.slice ra f.length rc) (.slice none 0 0) (.slice none 0 0)) (by rw [hl259]; rfl) hb3 (Nat.le_of_eq (by rw [hl259, dfaL_len (by simp)])) (dfaL_ones rfl rfl rfl) ?_
  intro H4 hb4 ha4 hs4
  rw [splice_all (by rw [hl259, dfaL_len (by simp)])] at hb4
  have hA4 : Agr (Old H) H H4 := (hA2.trans (ha3.mono fun k hk => by have := old_lt hA2 hk; omega)).trans (ha4.mono fun k hk => by have := old_lt hA2 hk; omega)
  have h24 : Agr (fun j => j < H2.size) H2 H4 := (ha3.mono fun j hj => by omega).trans (ha4.mono fun j hj => by omega)
  have hb14 := hb12.agr h24 (show p1 < H2.size by omega)
  have hr4 : SlD tI (fun j => H1.size ≤ j ∧ j < H2.size) H4 ra rc (asI f) := hr.frame (h24.mono fun j hj => hj.2)
  have hnn : next.length ≤ 65536 := hn2
  (conv => whnf)
  refine VLoop.mk [8] (fun q : Nat => [.int .i64 q]) (fun q H5 => q ≤ next.length ∧ Agr (fun j => j < H4.size ∧ j ≠ p3) H4 H5 ∧ H4.size ≤ H5.size ∧ ∃ vn vf Sr, Blk H5 p3 37 (dfaL ps (.slice ra f.length rc) vn vf) ∧
    SlO tRows Sr H5 H4.size 35 vn ((next.map (rowR cells f)).take q) ∧ SlO tBool (fun _ => False) H5 H4.size 4 vf (final.take q) ∧ (∀ j, Sr j → H4.size ≤ j ∧ j < H5.size ∧ ¬ slB vn j ∧ ¬ slB vf j) ∧ (∀ j, slB vn j → ¬ slB vf j)) (fun q _ => next.length - q) ?_ ?_
  · (conv => whnf)
    exact ⟨0, rfl, by omega, Agr.refl _ _, Nat.le_refl _, .slice none 0 0, .slice none 0 0, fun _ => False, hb4, by rw [List.take_zero]; exact SlO.nil, by rw [List.take_zero]; exact SlO.nil, fun _ f => f.elim, fun j hj => by obtain ⟨o, n, c, h⟩ := hj; cases h⟩
  · rintro q H5 junk ⟨hq, ha5, hs5, vn, vf, Sr, hb5, hvn, hvf, hSr, hap⟩
    have hp34 : p3 < H4.size := hb4.lt
    have hA5 : Agr (Old H) H H5 := hA4.trans (ha5.mono fun j hj => ⟨old_lt hA4 hj, by have := old_lt hA2 hj; omega⟩)
    (conv => whnf); refine VIte.mk (fun h => ?_) (fun h => ?_) <;> simp only [decide_eq_true_eq, decide_eq_false_iff_not] at h
    · obtain ⟨row, hrow⟩ := get_some (l := next) (k := q) (by omega)
      obtain ⟨fin, hfin⟩ := get_some (l := final) (k := q) (by omega)
      have hrl := (hrows row (List.mem_of_getElem? hrow)).1
      have hin : ∀ {r : Nat}, r ∈ f → (∃ t, row[cellOf cells r]? = some t ∧ row.getD (cellOf cells r) 0 = t ∧ 0 ≤ t ∧ t < 65536) := fun {r} hr => by
        have h1 := (soundB_cells hsound (hok2 r hr)).1
        obtain ⟨t, ht⟩ := get_some (l := row) (k := cellOf cells r) (by omega)
        have h2 := (hrows row (List.mem_of_getElem? hrow)).2 t (List.mem_of_getElem? ht)
        exact ⟨t, ht, by rw [List.getD_eq_getElem?_getD, ht]; rfl, h2.1, by omega⟩
      (conv => whnf); refine VC.fa fl37_1 ?_
      (conv => whnf); refine ld1 (v := .slice ra f.length rc) ct35 (by rw [hb5.cell, Nat.zero_add]; exact dfaL_256 hpl) trivial ?_
      (conv => whnf); refine vmake1 sl35 rfl (by omega) (by omega) (by omega) (by omega) ?_
      intro rb H6 hrb hs6 hb6 ha6
      rw [Int.toNat_natCast] at hb6
      have hrow0 : SlO tI (fun _ => False) H6 H5.size 3 (.slice (some ⟨rb, 0, none⟩) f.length f.length) ((rowR cells f row).take 0 ++ List.replicate ((rowR cells f row).length - 0) 0) := by
        rw [fill_beg, rowR_len]
        exact SlO.made (T := tI) (v := (0 : Int)) (c := [.int .i64 0]) (by omega) (by simpa using hb6) ⟨rfl, inI64 (x := 0) (by decide)⟩ (by unfold maxLen; omega)
      have hb56 := hb5.agr ha6 (show p3 < rb by omega)
      (conv => whnf)
      refine VLoop.mk [10] (fun k : Nat => [.int .i64 k]) (fun k H7 => k ≤ f.length ∧ Agr (fun j => j ≠ rb) H6 H7 ∧ H7.size = H6.size ∧ SlO tI (fun _ => False) H7 H5.size 3 (.slice (some ⟨rb, 0, none⟩) f.length f.length) ((rowR cells f row).take k ++ List.replicate ((rowR cells f row).length - k) 0)) (fun k _ => f.length - k) ?_ ?_
      · (conv => whnf); exact ⟨0, rfl, by omega, Agr.refl _ _, rfl, hrow0⟩
      · rintro k H7 junk7 ⟨hk, ha7, hs7, hrow7⟩
        have hb57 := hb56.agr ha7 (show p3 ≠ rb by omega)
        have hA7 : Agr (Old H) H H7 := (hA5.trans (ha6.mono fun j hj => by have := old_lt hA5 hj; omega)).trans (ha7.mono fun j hj => by have := old_lt hA5 hj; omega)
        have h47 : Agr (fun j => j < H4.size ∧ j ≠ p3) H4 H7 := (ha5.trans (ha6.mono fun j hj => by omega)).trans (ha7.mono fun j hj => by omega)
        have hrl' := rowR_len cells f row
        (conv => whnf); refine VC.fa fl37_1 ?_
        (conv => whnf); refine ld1 (v := .slice ra f.length rc) ct35 (by rw [hb57.cell, Nat.zero_add]; exact dfaL_256 hpl) trivial ?_
        (conv => whnf); refine VIte.mk (fun h => ?_) (fun h => ?_) <;> simp only [decide_eq_true_eq, decide_eq_false_iff_not] at h
        · obtain ⟨r, hrk⟩ := get_some (l := f) (k := k) (by omega)
          have hr256 := hok2 r (List.mem_of_getElem? hrk)
          obtain ⟨t, ht, htD, ht0, ht1⟩ := hin (List.mem_of_getElem? hrk)
          have hgetR : (rowR cells f row)[k]? = some t := by unfold rowR; rw [List.getElem?_map, hrk]; exact congrArg some htD
          have hcl := (soundB_cells hsound hr256).1
          (conv => whnf)
          refine VLoop.mk [11] (fun c : Nat => [.int .i64 c]) (fun c H8 => c ≤ cells.length ∧ Agr (fun j => j ≠ rb) H7 H8 ∧ H8.size = H7.size ∧ SlO tI (fun _ => False) H8 H5.size 3 (.slice (some ⟨rb, 0, none⟩) f.length f.length)
            (((rowR cells f row).take k ++ List.replicate ((rowR cells f row).length - k) 0).set k (if cellOf cells r < c then t else 0))) (fun c _ => cells.length - c) ?_ ?_
          · (conv => whnf)
            refine ⟨0, rfl, by omega, Agr.refl _ _, rfl, ?_⟩
            rw [if_neg (by omega)]
            have hself := set_same (fill_get (l := rowR cells f row) (z := (0 : Int)) (show k < (rowR cells f row).length by omega))
            rw [hself]; exact hrow7
          · rintro c H8 junk8 ⟨hcn8, ha8, hs8, hrow8⟩
            have hb58 := hb57.agr ha8 (show p3 ≠ rb by omega)
            have hA8 : Agr (Old H) H H8 := hA7.trans (ha8.mono fun j hj => by have := old_lt hA5 hj; omega)
            have hr8 : SlD tI (fun j => H1.size ≤ j ∧ j < H2.size) H8 ra rc (asI f) := hr4.frame ((h47.trans (ha8.mono fun j hj => by omega)).mono fun j hj => by omega)
            (conv => whnf); refine VIte.mk (fun h => ?_) (fun h => ?_) <;> simp only [decide_eq_true_eq, decide_eq_false_iff_not] at h
            · obtain ⟨x, hx⟩ := get_some (l := cells) (k := c) (by omega)
              have huniq := cell_unique hsound hr256 hx
              (conv => whnf); refine VSeq.run ?_
              (conv => whnf); refine VDraw.lex rfl (by kernel_rfl) ?_
              (conv => whnf); refine VC.fa fl37_1 ?_
              (conv => whnf); refine ld1 (v := .slice ra f.length rc) ct35 (by rw [hb58.cell, Nat.zero_add]; exact dfaL_256 hpl) trivial ?_
              (conv => whnf); refine ixrn sl35 hr8 (asI_len _).symm (asI_get hrk) rfl ?_
              rintro b6 o6 cs6 hSb6 hcells6 ⟨rfl, -⟩
              (conv => whnf); refine ld1 ct3 hcells6.one trivial ?_
              (conv => whnf); refine ixr slB_ (hc.frame (hA8.mono hS)) hx rfl ?_
              rintro b7 o7 cs7 hSb7 hcells7 rfl
              (conv => whnf); refine ixa ar98 (by omega) (by omega) ?_
              (conv => whnf); refine ld1 (v := .bool (x.getLsbD r)) ct4 (by rw [show o7 + ((r : Nat) : Int).toNat * 1 = o7 + r by omega]; exact hcells7 r _ (bitsL_get x hr256)) trivial ?_
              rw [huniq]
              (conv => whnf); refine VIte.mk (fun hbit => ?_) (fun hbit => ?_) <;> simp only [decide_eq_true_eq, decide_eq_false_iff_not] at hbit
              · subst hbit
                obtain ⟨-, -, -, l9, hblk9, hlen9, -, hput9⟩ := hrow8.placeS (i := k) (by rw [List.length_set, fill_len (by omega)]; omega)
                have hsz : k * tI.size = k := Nat.mul_one k
                have hsz1 : tI.size = 1 := rfl
                (conv => whnf); refine ixr sl23 (hn.frame (hA8.mono hS)) hrow rfl ?_
                rintro b9 o9 cs9 hSb9 hcells9 ⟨xa, xc, rfl, hxr⟩
                (conv => whnf); refine ld1 ct35 hcells9.one trivial ?_
                (conv => whnf); refine ixr sl35 hxr ht rfl ?_
                rintro b10 o10 cs10 hSb10 hcells10 ⟨rfl, -⟩
                (conv => whnf); refine ld1 ct3 hcells10.one trivial ?_
                (conv => whnf); refine ix sl35 (by omega) (by omega) ?_
                (conv => whnf); refine st1 ct3 hblk9 (by omega) rfl ?_
                intro H10 hb10 ha10 hs10
                rw [show 0 + ((k : Nat) : Int).toNat * 1 = k * tI.size by show 0 + ((k : Nat) : Int).toNat * 1 = k * 1; omega] at hb10
                have hrow10 := hput9 H10 [.int .i64 t] t (by rw [← splice_one (show k * tI.size < l9.length by omega)] at hb10; exact hb10) (fun j hj => hj.elim) ⟨rfl, by show (-9223372036854775808 : Int) ≤ t; omega, by show t ≤ (9223372036854775807 : Int); omega⟩
                rw [List.set_set] at hrow10
                (conv => whnf); rw [w64 (x := (cellOf cells r : Int) + 1) (by omega) (by omega)]
                exact ⟨rfl, cellOf cells r + 1, by simp, ⟨by omega, ha8.trans (ha10.mono fun j hj => hj), by omega, by rw [if_pos (by omega)]; exact hrow10⟩, by omega⟩
              · (conv => whnf); rw [w64 (x := (c : Int) + 1) (by omega) (by omega)]
                refine ⟨rfl, c + 1, by simp, ⟨by omega, ha8, by omega, ?_⟩, by omega⟩
                have : (cellOf cells r < c + 1) ↔ (cellOf cells r < c) := by omega
                simp only [this]
                exact hrow8
            · rw [if_pos (by omega), fill_set hgetR] at hrow8
              (conv => whnf); rw [w64 (x := (k : Int) + 1) (by omega) (by omega)]
              exact ⟨rfl, k + 1, by simp, ⟨by omega, ha7.trans ha8, by omega, hrow8⟩, by omega⟩
        · obtain rfl : k = f.length := by omega
          have hfe := fill_end (l := rowR cells f row) (z := (0 : Int))
          rw [hrl'] at hfe hrow7
          rw [hfe] at hrow7
          have hvn7 : SlO tRows Sr H7 H4.size 35 vn ((next.map (rowR cells f)).take q) := (hvn.agr ha6 (S' := fun j => j < rb) (fun j hj => by have := (hvn.lt hj).2; omega) (fun j hj => by have := hSr j hj; omega)).agr (S' := fun j => j ≠ rb) ha7 (fun j hj => by have := (hvn.lt hj).2; omega) (fun j hj => by have := hSr j hj; omega)
          have hvf7 := (hvf.agr ha6 (fun j hj => by have := (hvf.lt hj).2; omega) (fun _ f => f.elim)).agr ha7 (fun j hj => by have := (hvf.lt hj).2; omega) (fun _ f => f.elim)
          obtain ⟨xa, xcap, e1, hxd, -⟩ := hrow7.view (S' := fun j => j = rb) (fun j hj => by obtain ⟨o, n, c, e⟩ := hj; cases e; rfl) (fun _ f => f.elim)
          injection e1 with e2 e3 e4
          subst e2; subst e4
          (conv => whnf); refine VC.fa fl37_2 ?_
          (conv => whnf); refine ld1 (v := vn) ct23 (by rw [hb57.cell, Nat.zero_add]; exact dfaL_257 hpl) trivial ?_
          (conv => whnf); refine vbuild1 sl23 [.slice (some ⟨rb, 0, none⟩) f.length f.length] rfl rfl (by decide) (by decide) ?_
          intro q8 H8 hq8 hs8 hb8 ha8
          have hnewS : ∀ j, (Sr j ∨ j = rb) → j < H8.size ∧ ¬ slB vn j := fun j hj => by
            rcases hj with hj | rfl
            · have := hSr j hj; exact ⟨by omega, this.2.2.1⟩
            · exact ⟨by omega, fun hb => by have := (hvn.lt hb).2; omega⟩
          have hvn8 : SlO tRows (fun j => Sr j ∨ j = rb) H8 H4.size 35 vn ((next.map (rowR cells f)).take q) := (hvn7.agr ha8 (fun j hj => by have := (hvn.lt hj).2; omega) (fun j hj => by have := hSr j hj; omega)).mono fun j hj => .inl hj
          have hqn : ((next.map (rowR cells f)).take q).length = q := by rw [List.length_take, List.length_map]; omega
          (conv => whnf); refine vappendO (T := tRows) (S := fun j => Sr j ∨ j = rb) (ys := [rowR cells f row]) (ds := [.slice (some ⟨rb, 0, none⟩) f.length f.length]) (lo := H4.size) (xs := (next.map (rowR cells f)).take q) sl23 hvn8 (by omega) hnewS
              (hb8.cells (fun j v hv => by simpa using hv)) (Ty.reps_one ⟨some ⟨rb, 0, none⟩, f.length, by rw [hrl'], (hxd.frame (ha8.mono fun j hj => by omega)).mono fun j hj => .inr hj⟩) rfl (by intro u hu; cases List.mem_singleton.1 hu; rfl) (by rw [hqn]; simp only [maxLen, List.length_singleton]; omega) (by rw [hqn]; simp only [List.length_singleton]; omega) ?_
          intro v9 H9 hvn9 ha9 hs9 hfr9
          have hb59 : Blk H9 p3 37 (dfaL ps (.slice ra f.length rc) vn vf) := (hb57.agr ha8 (show p3 < q8 by omega)).agr ha9 ⟨by omega, fun hb => by have := (hvn.lt hb).1; omega⟩
          (conv => whnf); refine VC.fa fl37_2 ?_
          (conv => whnf); refine st1 ct23 hb59 (by rw [hl259]; omega) hvn9.one ?_
          intro H10 hb10 ha10 hs10
          rw [Nat.zero_add, dfaL_put257 hpl] at hb10
          have hrb_ne : ∀ j, slB vn j → j ≠ rb := fun j hj => by have := (hvn.lt hj).2; omega
          have hvn10 : SlO tRows (fun j => Sr j ∨ j = rb) H10 H4.size 35 v9 ((next.map (rowR cells f)).take q ++ [rowR cells f row]) := hvn9.agr ha10 (fun j hj => by have := (hvn9.lt hj).1; omega) (fun j hj => by
            rcases hj with hj | rfl
            · have := hSr j hj; omega
            · omega)
          have hvf8 := hvf7.agr ha8 (fun j hj => by have := (hvf.lt hj).2; omega) (fun _ f => f.elim)
          have hvf9 := hvf8.agr ha9 (fun j hj => ⟨(hvf8.lt hj).2, fun hb => hap j hb hj⟩) (fun _ f => f.elim)
          have hvf10 := hvf9.agr ha10 (fun j hj => by have := (hvf9.lt hj).1; omega) (fun _ f => f.elim)
          have hap9 : ∀ j, slB v9 j → ¬ slB vf j := fun j hj hj' => by
            rcases hfr9 j hj with h | h
            · exact hap j h hj'
            · have := (hvf8.lt hj').2; omega
          have hSr9 : ∀ j, Sr j ∨ j = rb → H4.size ≤ j ∧ j < H10.size ∧ ¬ slB v9 j ∧ ¬ slB vf j := fun j hj => by
            have h1 := hnewS j hj
            refine ⟨?_, by omega, fun hb => ?_, fun hb => ?_⟩
            · rcases hj with hj | rfl
              · exact (hSr j hj).1
              · omega
            · rcases hfr9 j hb with h | h
              · exact h1.2 h
              · omega
            · rcases hj with hj | rfl
              · exact (hSr j hj).2.2.2 hb
              · have := (hvf.lt hb).2; omega
          have hA10 : Agr (Old H) H H10 := ((hA7.trans (ha8.mono fun j hj => by have := old_lt hA7 hj; omega)).trans (ha9.mono fun j hj => ⟨by have := old_lt hA7 hj; omega, fun hb => by have := (hvn.lt hb).1; have := old_lt hA4 hj; omega⟩)).trans (ha10.mono fun j hj => by have := old_lt hA2 hj; omega)
          have h410 : Agr (fun j => j < H4.size ∧ j ≠ p3) H4 H10 := ((h47.trans (ha8.mono fun j hj => by omega)).trans (ha9.mono fun j hj => ⟨by omega, fun hb => by have := (hvn.lt hb).1; omega⟩)).trans (ha10.mono fun j hj => hj.2)
          (conv => whnf)
          have hnof : ∀ j, j < H4.size → ¬ slB vf j := fun j hj hb => by have := (hvf.lt hb).1; omega
          refine VDraw.held (fun j => j < H10.size ∧ ¬ slB vf j) 9 (sq [0,1,2,3,4,5] (.f 6 (.f 7 (sq [8] (.f 9 .e))))) rfl (by kernel_rfl) ?_
          (conv => whnf); refine VC.fa fl37_3 ?_
          (conv => whnf); refine ld1 (v := vf) ct24 (by rw [hb10.cell, Nat.zero_add]; exact dfaL_258 hpl) ⟨hb10.lt, hnof _ hp34⟩ ?_
          (conv => whnf); refine ixr sl24 (hf.frame (hA10.mono hS)) hfin rfl ?_
          rintro b11 o11 cs11 hSb11 hcells11 rfl
          (conv => whnf); refine ld1 ct4 hcells11.one ⟨old_lt hA10 (hS _ hSb11), hnof _ (old_lt hA4 (hS _ hSb11))⟩ ?_
          (conv => whnf); refine vbuild1 sl24 [.bool fin] rfl rfl (by decide) (by decide) ?_
          intro q12 H12 hq12 hs12 hb12' ha12
          refine ⟨ha12.mono fun j hj => by omega, ?_⟩
          have hvf12 := hvf10.agr ha12 (fun j hj => by have := (hvf10.lt hj).2; omega) (fun _ f => f.elim)
          have hfq : (final.take q).length = q := by rw [List.length_take]; omega
          (conv => whnf); refine vappendO (T := tBool) (S := fun _ => False) (ys := [fin]) (ds := [.bool fin]) (lo := H4.size) (xs := final.take q) sl24 hvf12 (by omega) (fun j hj => hj.elim)
              (hb12'.cells (fun j v hv => by simpa using hv)) (Ty.reps_one rfl) rfl (by intro u hu; cases List.mem_singleton.1 hu; rfl) (by rw [hfq]; simp only [maxLen, List.length_singleton]; omega) (by rw [hfq]; simp only [List.length_singleton]; omega) ?_
          intro v13 H13 hvf13 ha13 hs13 hfr13
          refine ⟨(ha12.mono fun j hj => by omega).trans (ha13.mono fun j hj => ⟨by omega, hj.2⟩), ?_⟩
          have hb13 : Blk H13 p3 37 (dfaL ps (.slice ra f.length rc) v9 vf) := (hb10.agr ha12 (show p3 < q12 by omega)).agr ha13 ⟨by omega, hnof _ hp34⟩
          (conv => whnf); refine VC.fa fl37_3 ?_
          (conv => whnf); refine st1 ct24 hb13 (by rw [hl259]; omega) hvf13.one ?_
          intro H14 hb14 ha14 hs14
          rw [Nat.zero_add, dfaL_put258 hpl] at hb14
          have hvf14 := hvf13.agr ha14 (fun j hj => by have := (hvf13.lt hj).1; omega) (fun _ f => f.elim)
          have hvn12 := hvn10.agr ha12 (fun j hj => by have := (hvn10.lt hj).2; omega) (fun j hj => by have := hSr9 j hj; omega)
          have hvn13 := hvn12.agr ha13 (fun j hj => ⟨(hvn12.lt hj).2, hap9 j hj⟩) (fun j hj => by have := hSr9 j hj; exact ⟨by omega, this.2.2.2⟩)
          have hvn14 := hvn13.agr ha14 (fun j hj => by have := (hvn13.lt hj).1; omega) (fun j hj => by have := hSr9 j hj; omega)
          (conv => whnf); rw [w64 (x := (q : Int) + 1) (by omega) (by omega)]
          refine ⟨rfl, q + 1, by simp, ⟨by omega, ?_, by omega, v9, v13, fun j => Sr j ∨ j = rb, hb14, ?_, ?_, fun j hj => ?_, fun j hj hj' => ?_⟩, by omega⟩
          · exact ((h410.trans (ha12.mono fun j hj => by omega)).trans (ha13.mono fun j hj => ⟨by omega, hnof j hj.1⟩)).trans (ha14.mono fun j hj => hj.2)
          · rw [take_succ_snoc (x := rowR cells f row) (by rw [List.getElem?_map, hrow]; rfl)]; exact hvn14
          · rw [take_succ_snoc hfin]; exact hvf14
          · have h1 := hSr9 j hj
            refine ⟨h1.1, by omega, h1.2.2.1, fun hb => ?_⟩
            rcases hfr13 j hb with h | h
            · exact h1.2.2.2 h
            · omega
          · rcases hfr13 j hj' with h | h
            · exact hap9 j hj h
            · have := (hvn12.lt hj).2; omega
    · obtain rfl : q = next.length := by omega
      have hml : (next.map (rowR cells f)).length = next.length := List.length_map _
      rw [show (next.map (rowR cells f)).take next.length = next.map (rowR cells f) by rw [← hml, List.take_length]] at hvn
      rw [show final.take next.length = final by rw [hn3, List.take_length]] at hvf
      have hnS : ∀ j, slB vn j → H4.size ≤ j ∧ j < H5.size := fun j hj => hvn.lt hj
      obtain ⟨xa, xcap, rfl, hxd, -⟩ := hvn.view (S' := fun j => H4.size ≤ j ∧ j < H5.size) hnS (fun j hj => by have := hSr j hj; omega)
      obtain ⟨ya, ycap, rfl, hyd, -⟩ := hvf.view (S' := fun j => H4.size ≤ j ∧ j < H5.size) (fun j hj => hvf.lt hj) (fun _ f => f.elim)
      have hb15 := hb14.agr ha5 ⟨by omega, by omega⟩
      have hr5 : SlD tI (fun j => H1.size ≤ j ∧ j < H2.size) H5 ra rc (asI f) := hr4.frame (ha5.mono fun j hj => by omega)
      (conv => whnf); refine ldN (cs := dfaL ps (.slice ra f.length rc) (.slice xa (next.map (rowR cells f)).length xcap) (.slice ya final.length ycap)) (by rw [hl259]; exact ag37) (hb5.cells fun j v hv => by rw [Nat.zero_add]; exact hv) trivial ?_
      (conv => whnf); refine VC.stN (cs := dfaL ps (.slice ra f.length rc) (.slice xa (next.map (rowR cells f)).length xcap) (.slice ya final.length ycap)) (by rw [hl259]; rfl) hb15 (Nat.le_of_eq (by rw [hl259, dfaL_len (by simp)])) (dfaL_ones rfl rfl rfl) ?_
      intro H6 hb6 ha6 hs6
      rw [splice_all (by rw [hl259, dfaL_len (by simp)])] at hb6
      (conv => whnf); refine ldN (cs := dfaL ps (.slice ra f.length rc) (.slice xa (next.map (rowR cells f)).length xcap) (.slice ya final.length ycap)) (by rw [hl259]; exact ag37) (hb6.cells fun j v hv => by rw [Nat.zero_add]; exact hv) trivial ?_
      have hup : ∀ j, H4.size ≤ j ∧ j < H5.size → Fresh H H6 j := fun j hj => by unfold Fresh; have := old_size hA2; omega
      refine ⟨hA5.trans (ha6.mono fun j hj => by unfold Old at hj; omega), by omega, ⟨by simp only [madeD]; rw [hpeq]; exact hpl, ra, rc, xa, xcap, ya, ycap, ?_, ?_, ?_, ?_⟩⟩
      · simp only [madeD, hfeq, hpeq, asI_len]
      · simp only [madeD, hfeq]
        exact (hr5.frame (ha6.mono fun j hj => by omega)).mono fun j hj => by unfold Fresh; omega
      · simp only [madeD, hfeq]
        exact (hxd.frame (ha6.mono fun j hj => by omega)).mono hup
      · exact (hyd.frame (ha6.mono fun j hj => by omega)).mono hup

end Go.Proofs.Ytpnnedkpbmilkaa
