/- The law DfaNews: its walk. -/
import Derived.Test.YtpnnedkpbmilkaaPSameW
set_option linter.unusedVariables false
set_option linter.unusedSimpArgs false
set_option maxRecDepth 100000
namespace Go.VC
/-- A row of the table has been written in its place. -/
theorem Tab.poke {α : Type} {T : Ty α} {H H' : Heap} {lo nb i : Nat} {e te : TypeId} {vs : List Value} {xs : List (List α)} {v : Value} {x' : List α} (h : Tab T (fun _ => False) H lo e nb te vs xs) (hv : vs[i]? = some v) (hown : SlO T (fun _ => False) H' lo e v x') (ha : Agr (fun j => ¬ slB v j) H H') :
    Tab T (fun _ => False) H' lo e nb te vs (xs.set i x') := by
  have hnlo := h.nlo
  refine ⟨by rw [List.length_set]; exact h.len, h.blk.agr ha (fun hb => by have := (hown.lt hb).1; omega), h.nlo, fun j w y hw hy => ?_, h.apart⟩
  by_cases hj : i = j
  · subst hj
    rw [hv] at hw; cases hw
    rw [List.getElem?_set_self (by rw [← h.len]; exact (List.getElem?_eq_some_iff.1 hv).1)] at hy
    cases hy
    exact hown
  · rw [List.getElem?_set_ne hj] at hy
    have h1 := h.own j w y hw hy
    exact h1.agr ha (fun b hb hb' => h.apart j i w v b (Ne.symm hj) hw hv hb hb') (fun _ f => f.elim)
theorem Tab.keep {α : Type} {T : Ty α} {H H' : Heap} {S' : Nat → Prop} {lo nb : Nat} {e te : TypeId} {vs : List Value} {xs : List (List α)} (h : Tab T (fun _ => False) H lo e nb te vs xs) (k : Agr S' H H') (hn : S' nb) (hb : ∀ (i : Nat) (v : Value), vs[i]? = some v → ∀ j, slB v j → S' j) :
    Tab T (fun _ => False) H' lo e nb te vs xs :=
  ⟨h.len, h.blk.agr k hn, h.nlo, fun i v x hv hx => (h.own i v x hv hx).agr k (fun b hb' => hb i v hv b hb') (fun _ f => f.elim), h.apart⟩
/-- Half of a list is turned. -/
def half {α : Type} (f : α → α) (l : List α) (k : Nat) : List α := (l.take k).map f ++ l.drop k
theorem half_zero {α : Type} (f : α → α) (l : List α) : half f l 0 = l := by simp [half]
theorem half_len {α : Type} (f : α → α) (l : List α) (k : Nat) : (half f l k).length = l.length := by simp [half]; omega
theorem half_get {α : Type} {f : α → α} {l : List α} {k : Nat} {x : α} (h : l[k]? = some x) : (half f l k)[k]? = some x := by
  have hk := (List.getElem?_eq_some_iff.1 h).1
  unfold half
  rw [List.getElem?_append_right (by simp; omega), List.length_map, List.length_take, Nat.min_eq_left (by omega), Nat.sub_self, List.getElem?_drop, Nat.add_zero, h]
theorem half_set {α : Type} {f : α → α} {l : List α} {k : Nat} {x : α} (h : l[k]? = some x) : (half f l k).set k (f x) = half f l (k + 1) := by
  have hk := (List.getElem?_eq_some_iff.1 h).1
  have hx := (List.getElem?_eq_some_iff.1 h).2
  unfold half
  rw [List.set_append_right _ _ (by simp; omega), List.length_map, List.length_take, Nat.min_eq_left (by omega), Nat.sub_self, List.drop_eq_getElem_cons hk, List.set_cons_zero, List.take_succ_eq_append_getElem hk, List.map_append, hx, List.append_assoc]
  rfl
end Go.VC
namespace Go.Proofs.Ytpnnedkpbmilkaa
open Go.VC
attribute [local irreducible] mRun atRun

theorem autoOf_no {cells : List (BitVec 256)} {next : List (List Int)} {final : List Bool} (h : soundB cells next final.length = false) : autoOf cells next final = none := by unfold autoOf; rw [h]; rfl
theorem autoOf_yes {cells : List (BitVec 256)} {next : List (List Int)} {final : List Bool} (h : soundB cells next final.length = true) : autoOf cells next final = some (madeM cells next final) := by unfold autoOf; rw [h]; rfl

set_option maxHeartbeats 8000000 in
theorem news_p (v : Value) (cells : List (BitVec 256)) (next : List (List Int)) (final : List Bool) (q : Int) (b : Nat) (S : Nat → Prop) (H : Heap) (ht : TabIn S H v cells next final) (hb8 : b < 256) :
    Pure Try.prog 3 #[v, .int .i64 q, .int .u8 (b : Int)] H (.bool true) := by
  obtain ⟨hS, ⟨ca, na, fa, cc, nc, fc, rfl, hc, hn, hf⟩, cn, nn, rn, fn⟩ := ht
  refine FnOk.of_vc Try.func3 rfl (Try.call3 _) ?_
  (conv => whnf); refine vbox [.slice ca cells.length cc, .slice na next.length nc, .slice fa final.length fc] rfl ?_
  intro pb H1 hpb hs1 hb1 ha1
  (conv => whnf); refine pures (speaks_p H1) fun H2 ha2 => ?_
  have hb2 := hb1.agr ha2 (show pb < H1.size by omega)
  have hs2' := old_size ha2
  have hA2 : Agr (Old H) H H2 := (ha1.mono fun k hk => by unfold Old at hk; omega).trans (ha2.mono fun k hk => by unfold Old at *; omega)
  have hSo : ∀ {H' : Heap}, Agr (Old H) H H' → ∀ k, S k → k < H'.size := fun h k hk => old_lt h (hS k hk)
  (conv => whnf); refine VC.fa fl26_1 ?_
  (conv => whnf); refine ld1 ct23 (by rw [hb2.cell]; rfl) trivial ?_
  (conv => whnf); refine VCall.mk (rows_c na nc next S H2 (hSo hA2) (hn.frame (hA2.mono hS)) (by omega) (fun row hr => Nat.le_trans (rn row hr) (by decide))) ?_
  rintro v3 H3 ⟨ha3, hs3, nb, vs, rfl, hnb, tab⟩
  have hA3 := hA2.trans (ha3.mono fun k hk => old_lt hA2 hk)
  have hb3 := hb2.agr ha3 (show pb < H2.size by omega)
  have hnb3 := tab.blk.lt
  (conv => whnf); refine vbuild0 sl24 ?_
  intro q4 H4 hq4 hs4 hb4 ha4
  have hA4 := hA3.trans (ha4.mono fun k hk => by have := old_lt hA3 hk; omega)
  have hb34 := hb3.agr ha4 (show pb < q4 by omega)
  (conv => whnf); refine VC.fa fl26_2 ?_
  (conv => whnf); refine ld1 ct24 (by rw [hb34.cell]; rfl) trivial ?_
  (conv => whnf); refine ends_c hb4 (S := S) (fun k hk => ⟨hSo hA4 k hk, by have := hS k hk; omega⟩) (hf.frame (hA4.mono hS)) (by omega) ?_
  intro v5 H5 own5 ha5 hs5
  have hA5 := hA4.trans (ha5.mono fun k hk => ⟨old_lt hA4 hk, by unfold Old at hk; omega⟩)
  have hb35 := hb34.agr ha5 ⟨by omega, by omega⟩
  have h35 : Agr (fun k => k < H3.size) H3 H5 := (ha4.mono fun k hk => by omega).trans (ha5.mono fun k hk => by omega)
  have tab5 := tab.agr h35 hnb3 (fun j _ hj => hj) (fun _ f => f.elim)
  have hvlt : ∀ (i : Nat) (w : Value), vs[i]? = some w → ∀ j, slB w j → nb < j ∧ j < H3.size := fun i w hw j hj => by
    obtain ⟨x, hx⟩ := get_some (l := next) (k := i) (by rw [← tab.len]; exact (List.getElem?_eq_some_iff.1 hw).1)
    have := (tab.own i w x hw hx).lt hj
    omega
  have h5lt : ∀ j, slB v5 j → q4 ≤ j ∧ j < H5.size := fun j hj => own5.lt hj
  (conv => whnf); refine ldN (cs := [.slice ca cells.length cc, .slice na next.length nc, .slice fa final.length fc]) ag26 (hb35.cells (fun j v hv => by rw [Nat.zero_add]; exact hv)) trivial ?_
  (conv => whnf); refine VCall.mk (cells_l _ _ ca cc cells S H5 (hSo hA5) (hc.frame (hA5.mono hS)) (by omega)) ?_
  rintro v6 H6 ⟨ha6, hs6, cb, rfl, hcb, own6⟩
  have hcb6 : cb < H6.size := (own6.lt ⟨0, _, _, rfl⟩).2
  have hA6 := hA5.trans (ha6.mono fun k hk => old_lt hA5 hk)
  have tab6 := tab5.agr ha6 (show nb < H5.size by omega) (fun j _ hj => hj) (fun _ f => f.elim)
  have own56 := own5.agr ha6 (fun j hj => (h5lt j hj).2) (fun _ f => f.elim)
  have hb36 := hb35.agr ha6 (show pb < H5.size by omega)
  (conv => whnf); refine vcall_newO own6 tab6 own56 (by unfold maxLen; omega) ?_
  intro v7 H7 ha7 hs7 hv7
  have hA7 := hA6.trans (ha7.mono fun k hk => old_lt hA6 hk)
  have hb37 := hb36.agr ha7 (show pb < H6.size by omega)
  have htab : ∀ {H' : Heap}, Agr (Old H) H H' → TabIn S H' (.agg #[.slice ca cells.length cc, .slice na next.length nc, .slice fa final.length fc]) cells next final := fun h =>
    ⟨fun k hk => old_lt h (hS k hk), ⟨ca, na, fa, cc, nc, fc, rfl, hc.frame (h.mono hS), hn.frame (h.mono hS), hf.frame (h.mono hS)⟩, cn, nn, rn, fn⟩
  (conv => whnf); refine ldN (cs := [.slice ca cells.length cc, .slice na next.length nc, .slice fa final.length fc]) ag26 (hb37.cells (fun j v hv => by rw [Nat.zero_add]; exact hv)) trivial ?_
  (conv => whnf); refine pures (whole_p _ cells next final S H7 (htab hA7)) fun H8 ha8 => ?_
  have hA8 := hA7.trans (ha8.mono fun k hk => old_lt hA7 hk)
  have hb38 := hb37.agr ha8 (show pb < H7.size by omega)
  cases hso : soundB cells next final.length with
  | false =>
    rw [autoOf_no hso] at hv7
    obtain rfl := hv7
    (conv => whnf); refine peqN ptrA ?_
    (conv => whnf); exact ⟨rfl, hA8⟩
  | true =>
    obtain ⟨hn1, hn2, hn3, hrows⟩ := soundB_rows hso
    have hs8 := old_size ha8
    (conv => whnf); refine ldN (cs := [.slice ca cells.length cc, .slice na next.length nc, .slice fa final.length fc]) ag26 (hb38.cells (fun j v hv => by rw [Nat.zero_add]; exact hv)) trivial ?_
    (conv => whnf); refine VCall.mk (made_c _ cells next final S H8 (htab hA8)) ?_
    rintro v9 H9 ⟨ha9, hs9, hd⟩
    have hA9 := hA8.trans (ha9.mono fun k hk => old_lt hA8 hk)
    have hok := dfaOf_ok cells next final
    have b0 := both_n cells next final
    have b1 : ∀ (q : Int) (b : Nat), b < 256 → stepM (autoOf cells next final) q b = stepD (dfaOf cells next final) q b := fun q b hb => both_step cells next final q hb
    have b2 := both_final cells next final
    have hsome := autoOf_yes hso
    generalize autoOf cells next final = o at *
    generalize dfaOf cells next final = D at *
    obtain ⟨hlen, ra, rc, xa, xc, ya, yc, rfl, d1, d2, d3⟩ := hd
    have hl259 := dfaL_len (rv := .slice ra D.reps.length rc) (nv := .slice xa D.next.length xc) (fv := .slice ya D.final.length yc) hlen
    (conv => whnf); refine valloc _ (dfaL (List.replicate 256 0) (.slice none 0 0) (.slice none 0 0) (.slice none 0 0)) rfl (by kernel_rfl) ?_
    intro p5 H10 hp5 hs10 hb10 ha10
    (conv => whnf); refine VC.stN (cs := dfaL D.cell (.slice ra D.reps.length rc) (.slice xa D.next.length xc) (.slice ya D.final.length yc)) (by rw [hl259]; rfl) hb10 (Nat.le_of_eq (by rw [hl259, dfaL_len (by simp)])) (dfaL_ones rfl rfl rfl) ?_
    intro H11 hb11 ha11 hs11
    rw [splice_all (by rw [hl259, dfaL_len (by simp)])] at hb11
    have h911 : Agr (Old H9) H9 H11 := (ha10.mono fun j hj => by unfold Old at hj; omega).trans (ha11.mono fun j hj => by unfold Old at hj; omega)
    have h611 : Agr (Old H6) H6 H11 := ((ha7.trans (ha8.mono fun k hk => old_lt ha7 hk)).trans (ha9.mono fun k hk => by unfold Old at *; omega)).trans (h911.mono fun k hk => by unfold Old at *; omega)
    have h711 : Agr (Old H7) H7 H11 := (ha8.trans (ha9.mono fun k hk => old_lt ha8 hk)).trans (h911.mono fun k hk => by unfold Old at *; omega)
    have hA11 := hA9.trans (h911.mono fun k hk => old_lt hA9 hk)
    have tab11 := tab6.agr h611 (show nb < H6.size by omega) (fun j _ hj => hj) (fun _ f => f.elim)
    have own511 := own56.agr h611 (fun j hj => by unfold Old; have := (h5lt j hj).2; omega) (fun _ f => f.elim)
    have own611 := own6.agr h611 (fun j hj => (own6.lt hj).2) (fun _ f => f.elim)
    have hb311 := hb38.agr (ha9.trans (h911.mono fun k hk => by unfold Old at *; omega)) (show pb < H8.size by omega)
    have hv11 := hv7.frame (h711.mono fun k hk => hk.2)
    have d1' := d1.frame (h911.mono fun k hk => hk.2)
    have d2' := d2.frame (h911.mono fun k hk => hk.2)
    have d3' := d3.frame (h911.mono fun k hk => hk.2)
    have hH5 : H5.size ≤ H11.size := by omega
    (conv => whnf)
    refine VLoop.mk [12] (fun i : Nat => [.int .i64 i]) (fun i H12 => i ≤ next.length ∧ Agr (fun j => j ≤ nb ∨ H5.size ≤ j) H11 H12 ∧ H12.size = H11.size ∧ Tab tI (fun _ => False) H12 (nb + 1) 3 nb 35 vs (half (fun r => r.map fun _ => (-9 : Int)) next i) ∧
      SlO tBool (fun _ => False) H12 q4 4 v5 (half (fun x => !x) final i)) (fun i _ => next.length - i) ?_ ?_
    · (conv => whnf)
      exact ⟨0, rfl, by omega, Agr.refl _ _, rfl, by rw [half_zero]; exact tab11, by rw [half_zero]; exact own511⟩
    · rintro i H12 junk ⟨hi, ha12, hs12, tab12, own512⟩
      have hA12 : Agr (Old H) H H12 := hA11.trans (ha12.mono fun j hj => by unfold Old at hj; omega)
      have hb312 := hb311.agr ha12 (.inl (by omega))
      (conv => whnf); refine VIte.mk (fun h => ?_) (fun h => ?_) <;> simp only [decide_eq_true_eq, decide_eq_false_iff_not] at h
      · obtain ⟨row, hrow⟩ := get_some (l := next) (k := i) (by omega)
        obtain ⟨fin, hfin⟩ := get_some (l := final) (k := i) (by omega)
        obtain ⟨w, hw⟩ := get_some (l := vs) (k := i) (by rw [tab.len]; omega)
        have hrl : row.length ≤ 1048576 := rn row (List.mem_of_getElem? hrow)
        have hwlt := hvlt i w hw
        obtain ⟨wa, wcap, rfl, -, -⟩ := (tab12.own i w row hw (half_get hrow)).view (S' := fun _ => True) (fun _ _ => trivial) (fun _ f => f.elim)
        have hcellw : ∀ {H' : Heap} {xs : List (List Int)}, Tab tI (fun _ => False) H' (nb + 1) 3 nb 35 vs xs → VC.cell H' nb (0 + (i : Int).toNat * 1) = some (.slice wa row.length wcap) := fun ht => by
          rw [ht.blk.cell, show 0 + (i : Int).toNat * 1 = i by omega]; exact hw
        have hread : ∀ {H' : Heap} {xs : List (List Int)} {x : List Int}, Tab tI (fun _ => False) H' (nb + 1) 3 nb 35 vs xs → xs[i]? = some x → x.length = row.length → SlD tI (Old H') H' wa wcap x := fun ht hx hl => by
          obtain ⟨a', cap', e, hd, -⟩ := (ht.own i _ _ hw hx).view (S' := Old _) (fun j hj => ((ht.own i _ _ hw hx).lt hj).2) (fun _ f => f.elim)
          injection e with e1 e2 e3
          subst e1; subst e3
          exact hd
        (conv => whnf)
        refine VLoop.mk [13] (fun k : Nat => [.int .i64 k]) (fun k H13 => k ≤ row.length ∧ Agr (fun j => j ≤ nb ∨ H3.size ≤ j) H12 H13 ∧ H13.size = H12.size ∧ Tab tI (fun _ => False) H13 (nb + 1) 3 nb 35 vs ((half (fun r => r.map fun _ => (-9 : Int)) next i).set i (half (fun _ => -9) row k))) (fun k _ => row.length - k) ?_ ?_
        · (conv => whnf)
          exact ⟨0, rfl, by omega, Agr.refl _ _, rfl, by rw [half_zero, set_same (half_get hrow)]; exact tab12⟩
        · rintro k H13 junk13 ⟨hk, ha13, hs13, tab13⟩
          have hA13 : Agr (Old H) H H13 := hA12.trans (ha13.mono fun j hj => by unfold Old at hj; omega)
          have hb313 := hb312.agr ha13 (.inl (by omega))
          have hget13 : ((half (fun r => r.map fun _ => (-9 : Int)) next i).set i (half (fun _ => -9) row k))[i]? = some (half (fun _ => -9) row k) := List.getElem?_set_self (by rw [half_len]; omega)
          (conv => whnf); refine ix sl23 (by omega) (by omega) ?_
          (conv => whnf); refine ld1 ct35 (hcellw tab13) trivial ?_
          (conv => whnf); refine VIte.mk (fun h => ?_) (fun h => ?_) <;> simp only [decide_eq_true_eq, decide_eq_false_iff_not] at h
          · obtain ⟨x, hx⟩ := get_some (l := row) (k := k) (by omega)
            (conv => whnf)
            refine VDraw.lex rfl (by kernel_rfl) ?_
            (conv => whnf); refine ix sl23 (by omega) (by omega) ?_
            (conv => whnf); refine ld1 ct35 (hcellw tab13) trivial ?_
            (conv => whnf); refine ixrn sl35 (hread tab13 hget13 (half_len _ _ _)) (half_len _ _ _).symm (half_get hx) rfl ?_
            rintro b14 o14 cs14 hSb14 hcells14 ⟨rfl, -⟩
            (conv => whnf); refine ld1 ct3 hcells14.one trivial ?_
            (conv => whnf); refine VC.fa fl26_1 ?_
            (conv => whnf); refine ld1 ct23 (by rw [hb313.cell]; rfl) trivial ?_
            (conv => whnf); refine ixr sl23 (hn.frame (hA13.mono hS)) hrow rfl ?_
            rintro b15 o15 cs15 hSb15 hcells15 ⟨za, zc, rfl, hzr⟩
            (conv => whnf); refine ld1 ct35 hcells15.one trivial ?_
            (conv => whnf); refine ixr sl35 hzr hx rfl ?_
            rintro b16 o16 cs16 hSb16 hcells16 ⟨rfl, -⟩
            (conv => whnf); refine ld1 ct3 hcells16.one trivial ?_
            have e0 : (x != x) = false := by simp
            (conv => whnf); rw [e0]
            have hown := tab13.own i _ _ hw hget13
            obtain ⟨rb, rcap, l17, cs17, e17, hlo17, hblk17, hlen17, -, -, hput17⟩ := hown.place (i := k) (by rw [half_len]; omega)
            injection e17 with g1 g2 g3
            subst g1; subst g3
            have hrb := hwlt rb ⟨0, _, _, rfl⟩
            have hsz : k * tI.size = k := Nat.mul_one k
            have hsz1 : tI.size = 1 := rfl
            (conv => whnf); refine ix sl23 (by omega) (by omega) ?_
            (conv => whnf); refine ld1 ct35 (hcellw tab13) trivial ?_
            (conv => whnf); refine ix sl35 (by omega) (by omega) ?_
            (conv => whnf); refine st1 ct3 hblk17 (by omega) rfl ?_
            intro H17 hb17 ha17 hs17
            rw [show 0 + ((k : Nat) : Int).toNat * 1 = k * tI.size by show 0 + ((k : Nat) : Int).toNat * 1 = k * 1; omega] at hb17
            have hown17 := hput17 H17 [.int .i64 (-9)] (-9) (by rw [← splice_one (show k * tI.size < l17.length by omega)] at hb17; exact hb17) (fun j hj => hj.elim) ⟨rfl, by decide, by decide⟩
            rw [show (-9 : Int) = (fun _ : Int => (-9 : Int)) x from rfl, half_set hx] at hown17
            have tab17 := tab13.poke hw hown17 (ha17.mono fun j hj e => hj (by rw [e]; exact ⟨0, _, _, rfl⟩))
            rw [List.set_set] at tab17
            (conv => whnf); rw [w64 (x := (k : Int) + 1) (by omega) (by omega)]
            exact ⟨rfl, k + 1, by simp, ⟨by omega, ha13.trans (ha17.mono fun j hj => by omega), by omega, tab17⟩, by omega⟩
          · obtain rfl : k = row.length := by omega
            have hfull : half (fun _ => (-9 : Int)) row row.length = row.map fun _ => (-9 : Int) := by simp [half]
            rw [hfull, half_set hrow] at tab13
            have own513 := own512.agr ha13 (fun j hj => .inr (by have := (h5lt j hj).1; omega)) (fun _ f => f.elim)
            obtain ⟨eb, ecap, l18, cs18, e18, hlo18, hblk18, hlen18, hget18, -, hput18⟩ := own513.place (i := i) (by rw [half_len]; omega)
            subst e18
            rw [half_len] at *
            have heb := h5lt eb ⟨0, _, _, rfl⟩
            obtain ⟨c18, hc18, rfl⟩ := hget18 fin (half_get hfin)
            have hsz : i * tBool.size = i := Nat.mul_one i
            have hsz1 : tBool.size = 1 := rfl
            have hcell18 : VC.cell H13 eb (0 + ((i : Nat) : Int).toNat * 1) = some (.bool fin) := by
              have := hc18.one
              rwa [show 0 + ((i : Nat) : Int).toNat * 1 = i * tBool.size by show 0 + ((i : Nat) : Int).toNat * 1 = i * 1; omega]
            (conv => whnf)
            refine VDraw.lex rfl (by kernel_rfl) ?_
            (conv => whnf); refine ix sl24 (by omega) (by omega) ?_
            (conv => whnf); refine ld1 ct4 hcell18 trivial ?_
            (conv => whnf); refine VC.fa fl26_2 ?_
            (conv => whnf); refine ld1 ct24 (by rw [hb313.cell]; rfl) trivial ?_
            (conv => whnf); refine ixr sl24 (hf.frame (hA13.mono hS)) hfin rfl ?_
            rintro b19 o19 cs19 hSb19 hcells19 rfl
            (conv => whnf); refine ld1 ct4 hcells19.one trivial ?_
            (conv => whnf); refine bneq_b rfl ?_
            rw [show (!(fin == fin)) = false by simp]
            (conv => whnf); refine ix sl24 (by omega) (by omega) ?_
            (conv => whnf); refine ld1 ct4 hcell18 trivial ?_
            (conv => whnf); refine ix sl24 (by omega) (by omega) ?_
            (conv => whnf); refine st1 ct4 hblk18 (by omega) rfl ?_
            intro H20 hb20 ha20 hs20
            rw [show 0 + ((i : Nat) : Int).toNat * 1 = i * tBool.size by show 0 + ((i : Nat) : Int).toNat * 1 = i * 1; omega] at hb20
            have own520 := hput18 H20 [.bool (!fin)] (!fin) (by rw [← splice_one (show i * tBool.size < l18.length by omega)] at hb20; exact hb20) (fun j hj => hj.elim) rfl
            have hhs : (half (fun x => !x) final i).set i (!fin) = half (fun x => !x) final (i + 1) := half_set (f := fun x => !x) hfin
            rw [hhs] at own520
            have tab20 := tab13.keep (S' := fun j => j ≠ eb) ha20 (by omega) (fun i' w' hw' j hj => by have := hvlt i' w' hw' j hj; omega)
            (conv => whnf); rw [w64 (x := (i : Int) + 1) (by omega) (by omega)]
            exact ⟨rfl, i + 1, by simp, ⟨by omega, (ha12.trans (ha13.mono fun j hj => by omega)).trans (ha20.mono fun j hj => by omega), by omega, tab20, own520⟩, by omega⟩
      · obtain rfl : i = next.length := by omega
        have hv12 := hv11.frame (ha12.mono fun j hj => .inr (by have := hj.1; omega))
        have f1 := d1'.frame (ha12.mono fun j hj => .inr (by have := hj.1; omega))
        have f2 := d2'.frame (ha12.mono fun j hj => .inr (by have := hj.1; omega))
        have f3 := d3'.frame (ha12.mono fun j hj => .inr (by have := hj.1; omega))
        have hb512 := hb11.agr ha12 (.inr (by omega))
        have own612 := own611.agr ha12 (fun j hj => .inr (own611.lt hj).1) (fun _ f => f.elim)
        (conv => whnf)
        refine VLoop.mk [14] (fun i : Nat => [.int .i64 i]) (fun i H13 => i ≤ cells.length ∧ Agr (fun j => j ≠ cb) H12 H13 ∧ H13.size = H12.size ∧ ∃ xs : List (BitVec 256), xs.length = cells.length ∧ SlO tSet (fun _ => False) H13 H5.size 41 (.slice (some ⟨cb, 0, none⟩) cells.length cells.length) xs) (fun i _ => cells.length - i) ?_ ?_
        · (conv => whnf)
          exact ⟨0, rfl, by omega, Agr.refl _ _, rfl, cells, rfl, own612⟩
        · rintro i H13 junk13 ⟨hi13, ha13, hs13, xs, hxl, hx⟩
          (conv => whnf); refine VIte.mk (fun h => ?_) (fun h => ?_) <;> simp only [decide_eq_true_eq, decide_eq_false_iff_not] at h
          · obtain ⟨-, -, -, l7, hblk7, hlen7, -, hput7⟩ := hx.placeS (i := i) (by omega)
            (conv => whnf); refine vbuildA ar41 (setV 0) rfl (setL 9#256) (by kernel_rfl) ?_
            (conv => whnf); refine ix sl29 (by omega) (by omega) ?_
            (conv => whnf); refine VC.stN (cs := setL 9#256) rfl hblk7 (by rw [Nat.zero_add, Int.toNat_natCast]; exact hlen7) rfl ?_
            intro H14 hb14 ha14 hs14
            rw [Nat.zero_add, Int.toNat_natCast] at hb14
            have hx14 := hput7 H14 (setL 9#256) 9#256 hb14 (fun j hj => hj.elim) rfl
            (conv => whnf); rw [w64 (x := (i : Int) + 1) (by omega) (by omega)]
            exact ⟨rfl, i + 1, by simp, ⟨by omega, ha13.trans (ha14.mono fun j hj => hj), by omega, _, by simp [hxl], hx14⟩, by omega⟩
          · have hA13 : Agr (Old H) H H13 := hA12.trans (ha13.mono fun j hj => by unfold Old at hj; omega)
            have hv13 := hv12.frame (ha13.mono fun j hj => by have := hj.1; omega)
            have g1 := f1.frame (ha13.mono fun j hj => by have := hj.1; omega)
            have g2 := f2.frame (ha13.mono fun j hj => by have := hj.1; omega)
            have g3 := f3.frame (ha13.mono fun j hj => by have := hj.1; omega)
            have hb513 := hb512.agr ha13 (by omega)
            have hup1 : ∀ j, Fresh H6 H7 j → j < H13.size := fun j hj => by have := hj.2; omega
            have hup2 : ∀ j, Fresh H8 H9 j → j < H13.size := fun j hj => by have := hj.2; omega
            have hv13' : AutoV (Old H13) H13 v7 o := hv13.mono hup1
            have g1' := g1.mono hup2
            have g2' := g2.mono hup2
            have g3' := g3.mono hup2
            have hpt : ∃ pb7, v7 = .pointer (some ⟨pb7, 0, none⟩) := by
              rw [hsome] at hv13
              obtain ⟨pb7, e7, -⟩ := hv13
              exact ⟨pb7, e7⟩
            obtain ⟨pb7, rfl⟩ := hpt
            have hF : ∀ {H' : Heap}, Agr (Old H13) H13 H' → AutoV (Old H13) H' (.pointer (some ⟨pb7, 0, none⟩)) o := fun h => hv13'.frame h
            have hL : ∀ {H' : Heap}, Agr (Old H13) H13 H' → ∀ k, Old H13 k → k < H'.size := fun h k hk => old_lt h hk
            (conv => whnf); refine peqS ptrA ?_
            (conv => whnf); refine dfa_load hb513 hlen trivial g1' g2' g3' fun v14 hv14 => ?_
            (conv => whnf); refine pures (same_p (fun k hk => hk) hv13' hv14 hok b0 b1 b2) fun H14 ha14 => ?_
            have hb514 := hb513.agr ha14 hb513.lt
            have tr : ∀ {H' : Heap}, Agr (Old H14) H14 H' → Agr (Old H13) H13 H' := fun h => ha14.trans (h.mono fun k hk => old_lt ha14 hk)
            (conv => whnf)
            refine VDraw.quiet (Old H14) rfl (by kernel_rfl) ?_
            (conv => whnf); refine pureq (fun H' h' => step_p (hL (tr h')) (hF (tr h')) hb8) ?_
            (conv => whnf); refine dfa_load hb514 hlen hb514.lt (g1'.frame ha14) (g2'.frame ha14) (g3'.frame ha14) fun v15 hv15 => ?_
            (conv => whnf); refine pureq (fun H' h' => refstep_p (hL (tr h')) (hv15.frame (h'.mono fun k hk => old_lt ha14 hk)) hok hb8) ?_
            rw [b1 q b hb8]
            have e1 : (stepD D q b == stepD D q b) = true := by simp
            (conv => whnf); rw [e1]
            (conv => whnf); refine pureq (fun H' h' => final_p (hF (tr h'))) ?_
            (conv => whnf); refine dfa_load hb514 hlen hb514.lt (g1'.frame ha14) (g2'.frame ha14) (g3'.frame ha14) fun v16 hv16 => ?_
            (conv => whnf); refine pureq (fun H' h' => reffinal_p (hL (tr h')) (hv16.frame (h'.mono fun k hk => old_lt ha14 hk))) ?_
            (conv => whnf); refine beq_b rfl ?_
            rw [b2 q, show (finD D q == finD D q) = true by simp]
            (conv => whnf)
            intro H15 ha15
            (conv => whnf)
            exact ⟨rfl, hA13.trans ((ha14.trans (ha15.mono fun k hk => old_lt ha14 hk)).mono fun k hk => old_lt hA13 hk)⟩

end Go.Proofs.Ytpnnedkpbmilkaa
