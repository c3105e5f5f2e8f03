/- Parts of the proof: VOpen, POpenS, POpen5, VTop, PTabIn -/
import Derived.ProofKit
import Derived.Test.YthomdogheamfpaaDoorRows
import Derived.Test.YthomdogheamfpaaDoorKM1
import Derived.OpenShut
import Derived.Test.YthomdogheamfpaaDoorKM2
import Derived.JoinedCond
import Derived.WideKeyArgs
import Derived.Test.YthomdogheamfpaaDoorKM3
/- Reading arguments: what the form says of them, as typed views. -/
set_option linter.unusedVariables false
set_option linter.unusedSimpArgs false
namespace Go.VC
open Go.Proofs.YthomdogheamfpaaDoor.Rows (uptoBulk uptoBulkAll)
def InW (W : World) (k : Nat) : Prop := k < W.heap.size
def Opens {H : Type} (enc : TypeId × Value → H) (P : Program) (W : World) {α : Type} (T : Ty α) (sz : α → Nat) (t : TypeId) : Prop :=
  ∀ fuel cs d ps, DataW.trod enc P W 0 (fun _ => true) true fuel t cs = some (d, ps) → ∃ x, T.rep (InW W) W.heap cs x ∧ sz x ≤ uptoBulk d
/-- How many values a list bears. -/
def szL {α : Type} (sz : α → Nat) : List α → Nat
  | [] => 1
  | x :: xs => sz x + szL sz xs
theorem szL_snoc {α : Type} (sz : α → Nat) (x : α) : ∀ xs : List α, szL sz (xs ++ [x]) = szL sz xs + sz x
  | [] => by simp [szL]; omega
  | y :: ys => by simp only [List.cons_append, szL, szL_snoc sz x ys]; omega
theorem szL_len {α : Type} {sz : α → Nat} (h : ∀ x, 1 ≤ sz x) : ∀ xs : List α, xs.length + 1 ≤ szL sz xs
  | [] => Nat.le_refl _
  | y :: ys => by have := szL_len h ys; have := h y; simp only [List.length_cons, szL]; omega
theorem szL_mem {α : Type} {sz : α → Nat} {x : α} : ∀ {xs : List α}, x ∈ xs → sz x ≤ szL sz xs
  | [], h => by cases h
  | y :: ys, h => by
    rcases List.mem_cons.1 h with rfl | h
    · simp only [szL]; omega
    · have := szL_mem (sz := sz) h; simp only [szL]; omega
theorem bulkAll_snoc {H : Type} (d : DataW H) : ∀ ds : List (DataW H), uptoBulkAll (ds ++ [d]) = uptoBulkAll ds + uptoBulk d
  | [] => by simp [uptoBulkAll]
  | y :: ys => by simp only [List.cons_append, uptoBulkAll, bulkAll_snoc d ys]; omega
section
variable {H : Type} {enc : TypeId × Value → H} {P : Program} {W : World} {t e : TypeId}
theorem opens_int {k : IntKind} (ht : P.underlying t = some (.int k)) : Opens enc P W (tInt k) (fun _ => 1) t := by
  intro fuel cs d ps h
  obtain ⟨n, rfl, hd, hw⟩ := DataW.trod_int ht h
  cases hd
  simp only [Lit.wf, Bool.and_eq_true, decide_eq_true_eq] at hw
  exact ⟨n, ⟨rfl, hw⟩, by simp [uptoBulk]⟩
theorem opens_bool (ht : P.underlying t = some .bool) : Opens enc P W tBool (fun _ => 1) t := by
  intro fuel cs d ps h
  obtain ⟨b, rfl, hd⟩ := DataW.trod_bool ht h
  cases hd
  exact ⟨b, rfl, by simp [uptoBulk]⟩
theorem cells_get {a : Addr} {n : Nat} {cs : List Value} (h : W.cells? 0 a n = some cs) (hn : 0 < n) : cs.length = n ∧ a.spot = none ∧ a.block < W.heap.size ∧ Cells W.heap a.block a.off cs := by
  unfold World.cells? at h
  rw [if_pos (Nat.zero_le _)] at h
  have hl := mapM_some_length h
  rw [List.length_range] at hl
  have hg : ∀ j, j < n → W.cell? (a.add j) = cs[j]? := fun j hj => mapM_some_get h j j (by simp [hj])
  obtain ⟨v0, hv0⟩ : ∃ v, cs[0]? = some v := ⟨cs[0]'(by omega), List.getElem?_eq_getElem (by omega)⟩
  have h0 := hg 0 hn
  rw [hv0] at h0
  have hsp : a.spot = none := by
    cases hs : a.spot with
    | none => rfl
    | some x =>
      unfold World.cell? at h0
      split at h0
      · simp [Addr.add, hs] at h0
      · cases h0
  refine ⟨hl, hsp, ?_, fun j v hv => ?_⟩
  · unfold World.cell? at h0
    split at h0
    · rename_i he
      exact (Array.getElem?_eq_some_iff.1 he).1
    · cases h0
  · have hj := (List.getElem?_eq_some_iff.1 hv).1
    have := hg j (by omega)
    rw [hv] at this
    rw [← cell_w]
    obtain ⟨b, o, sp⟩ := a
    simp only at hsp
    subst hsp
    rw [Addr.add_mid] at this
    exact this
theorem opens_slice {α : Type} {T : Ty α} {sz : α → Nat} (ht : P.underlying t = some (.slice e)) (hc : P.cellsOf e = T.size) (h0 : 0 < T.size) (he : Opens enc P W T sz e) : Opens enc P W (tSl T) (szL sz) t := by
  intro fuel cs d ps h
  rcases DataW.trod_slice ht h with ⟨rfl, hd⟩ | ⟨a, len, cap, elems, rest, n, rfl, rfl, hd, -, hl, hm, hel, hget, hsp, -⟩
  · cases hd
    exact ⟨[], ⟨none, 0, rfl, rfl, rfl⟩, by simp [szL, uptoBulk]⟩
  · cases hd
    obtain ⟨hrl, hrest⟩ := hsp rfl
    rw [hc] at hget hrest
    by_cases hcap : cap = 0
    · obtain rfl : len = 0 := by omega
      exact ⟨[], ⟨some a, cap, rfl, by simp, hm, .inl hcap⟩, by simp [szL, uptoBulk]⟩
    · have hsb : a.spot = none ∧ a.block < W.heap.size := by
        have key : ∀ y, (W.cells? 0 (a.add (0 * T.size)) T.size).bind (DataW.trod enc P W 0 (fun _ => true) true n e) = some y → a.spot = none ∧ a.block < W.heap.size := by
          intro y hy
          obtain ⟨c, hc1, hc2⟩ := Option.bind_eq_some_iff.1 hy
          obtain ⟨g1, g2, g3, g4⟩ := cells_get hc1 h0
          rw [Nat.zero_mul] at g2 g3
          unfold Addr.add at g2 g3
          split at g2 <;> simp_all
        by_cases hil : 0 < len
        · exact key _ ((hget 0 hil).trans (List.getElem?_eq_getElem (by omega)))
        · have := hrest 0 (by omega)
          rw [show len + 0 = 0 by omega] at this
          exact key _ (this.trans (List.getElem?_eq_getElem (by omega)))
      obtain ⟨b, o, sp⟩ := a
      obtain ⟨rfl, hb⟩ := hsb
      have build : ∀ m, m ≤ len → ∃ ec xs, xs.length = m ∧ Cells W.heap b o ec ∧ T.reps (InW W) W.heap ec xs ∧ szL sz xs ≤ uptoBulkAll ((elems.take m).map (·.1)) + 1 := by
        intro m
        induction m with
        | zero => exact fun _ => ⟨[], [], rfl, (fun j v hv => by simp at hv), rfl, by simp [szL]⟩
        | succ m ih =>
          intro hm'
          obtain ⟨ec, xs, h1, h2, h3, hz⟩ := ih (by omega)
          have hy : elems[m]? = some (elems[m]'(by omega)) := List.getElem?_eq_getElem (by omega)
          obtain ⟨c, h4, hc2⟩ := Option.bind_eq_some_iff.1 ((hget m (by omega)).trans hy)
          obtain ⟨x, h5, hzx⟩ := he n c _ _ hc2
          obtain ⟨g1, g2, g3, g4⟩ := cells_get h4 h0
          rw [Addr.add_mid] at g4
          have hel := Ty.reps_len h3
          refine ⟨ec ++ c, xs ++ [x], by simp [h1], fun j v hv => ?_, Ty.reps_snoc h3 h5, ?_⟩
          · by_cases hj : j < ec.length
            · rw [List.getElem?_append_left hj] at hv
              exact h2 j v hv
            · rw [List.getElem?_append_right (by omega)] at hv
              have := g4 _ v hv
              simp only at this
              rw [show o + m * T.size + (j - ec.length) = o + j by rw [hel, h1] at *; omega] at this
              exact this
          · rw [szL_snoc, List.take_add_one, hy, Option.toList_some, List.map_append, List.map_singleton, bulkAll_snoc]
            refine Nat.le_trans (Nat.add_le_add hz hzx) ?_
            rw [Nat.add_right_comm]
            exact Nat.le_refl _
      obtain ⟨ec, xs, h1, h2, h3, hz⟩ := build len (Nat.le_refl _)
      rw [List.take_of_length_le (by omega)] at hz
      refine ⟨xs, ⟨_, cap, by rw [h1], SlD.intro hb (by omega) hm h2 h3⟩, ?_⟩
      simp only [uptoBulk]
      omega
end

end Go.VC
/- Sets as arguments. -/
set_option linter.unusedVariables false
set_option linter.unusedSimpArgs false
set_option maxRecDepth 100000
namespace Go.Proofs.YthomdogheamfpaaDoor
open Go.VC Go
def ofWd (a b c d : Nat) : BitVec 256 := BitVec.ofNat 256 (a + 2 ^ 64 * (b + 2 ^ 64 * (c + 2 ^ 64 * d)))
theorem wd_of {a b c d : Nat} (ha : a < 2 ^ 64) (hb : b < 2 ^ 64) (hc : c < 2 ^ 64) (hd : d < 2 ^ 64) : wd (ofWd a b c d) 0 = a ∧ wd (ofWd a b c d) 1 = b ∧ wd (ofWd a b c d) 2 = c ∧ wd (ofWd a b c d) 3 = d := by
  have h : (ofWd a b c d).toNat = a + 2 ^ 64 * (b + 2 ^ 64 * (c + 2 ^ 64 * d)) := by
    unfold ofWd
    rw [BitVec.toNat_ofNat]
    exact Nat.mod_eq_of_lt (by omega)
  unfold wd
  simp only [h, Nat.shiftRight_eq_div_pow]
  refine ⟨?_, ?_, ?_, ?_⟩ <;> omega

theorem opens_set {H : Type} {enc : TypeId × Value → H} {P : Program} {W : World} {t e : TypeId} (ht : P.underlying t = some (.array 4 e)) (he : P.underlying e = some (.int .u64)) (hc : P.cellsOf e = 1) (h4 : P.cellsOf t = 4) : Opens enc P W tSet (fun _ => 1) t := by
  intro fuel cs d ps h
  obtain ⟨xs, m, rfl, hd, hl, hx, hg⟩ := DataW.trod_array ht h
  cases hd
  rw [h4] at hl
  rw [hc] at hg
  match cs, hl with
  | [c0, c1, c2, c3], _ =>
    have one : ∀ (i : Nat) (c : Value), i < 4 → ([c0, c1, c2, c3].drop (i * 1)).take 1 = [c] → ∃ n : Nat, c = .int .u64 (n : Int) ∧ n < 2 ^ 64 := by
      intro i c hi hd
      have := hg i hi
      rw [hd, List.getElem?_eq_getElem (by omega)] at this
      obtain ⟨n, h1, -, hw⟩ := DataW.trod_int he this
      cases h1
      simp only [Lit.wf, Bool.and_eq_true, decide_eq_true_eq] at hw
      have m0 : IntKind.u64.min = 0 := rfl
      have m1 : IntKind.u64.max = 18446744073709551615 := rfl
      obtain ⟨k, rfl⟩ := Int.eq_ofNat_of_zero_le (show 0 ≤ n by omega)
      exact ⟨k, rfl, by omega⟩
    obtain ⟨n0, rfl, b0⟩ := one 0 c0 (by decide) rfl
    obtain ⟨n1, rfl, b1⟩ := one 1 c1 (by decide) rfl
    obtain ⟨n2, rfl, b2⟩ := one 2 c2 (by decide) rfl
    obtain ⟨n3, rfl, b3⟩ := one 3 c3 (by decide) rfl
    obtain ⟨w0, w1, w2, w3⟩ := wd_of b0 b1 b2 b3
    refine ⟨ofWd n0 n1 n2 n3, ?_, by simp [Rows.uptoBulk]⟩
    show _ = setL _
    unfold setL
    rw [w0, w1, w2, w3]

end Go.Proofs.YthomdogheamfpaaDoor
/- Tables as arguments. -/
set_option linter.unusedVariables false
set_option linter.unusedSimpArgs false
set_option maxRecDepth 100000
namespace Go.Proofs.YthomdogheamfpaaDoor
open Go.VC Go
/-- A table, as it is handed in. -/
structure TableV (W : World) (v : Value) (cells : List (BitVec 256)) (next : List (List Int)) (final : List Bool) : Prop where
  rep : ∃ ca na fa cc nc fc, v = .agg #[.slice ca cells.length cc, .slice na next.length nc, .slice fa final.length fc] ∧ SlD tSet (InW W) W.heap ca cc cells ∧ SlD tRows (InW W) W.heap na nc next ∧ SlD tBool (InW W) W.heap fa fc final
theorem open_table {H : Type} {enc : TypeId × Value → H} {W : World} {base : Nat} {v : Value} {d : DataW H} {ps : List MemPlace} (hval : Value.okWide Tryd.prog W .any base 26 v) (h : DataW.Trod enc Tryd.prog W 0 (fun _ => true) true 26 v d ps) :
    ∃ cells next final, TableV W v cells next final ∧ szL (fun _ => 1) cells + szL (szL fun _ => 1) next + szL (fun _ => 1) final ≤ Rows.uptoBulk d := by
  obtain ⟨fuel, h⟩ := h
  have hu := Tryd.underlying26
  obtain ⟨xs, m, rfl, hd, hl, hx, hg⟩ := DataW.trod_struct hu h
  cases hd
  have h3 : Tryd.prog.cellsOf 26 = 3 := by kernel_rfl
  simp only [Value.okWide, hu] at hval
  obtain ⟨cs, rfl, hsz, -⟩ := hval
  rw [h3] at hsz
  obtain ⟨l⟩ := cs
  match l, hsz with
  | [c0, c1, c2], _ =>
    have k1 : Tryd.prog.cellsOf 22 = 1 := by kernel_rfl
    have k2 : Tryd.prog.cellsOf 23 = 1 := by kernel_rfl
    have k3 : Tryd.prog.cellsOf 24 = 1 := by kernel_rfl
    have hx3 : xs.length = 3 := hx
    match xs, hx3 with
    | [x0, x1, x2], _ =>
      have g0 : DataW.trod enc Tryd.prog W 0 (fun _ => true) true m 22 (List.take (Tryd.prog.cellsOf 22) [c0, c1, c2]) = some x0 := hg 0 _ rfl
      have g1 : DataW.trod enc Tryd.prog W 0 (fun _ => true) true m 23 (List.take (Tryd.prog.cellsOf 23) [c1, c2]) = some x1 := hg 1 _ rfl
      have g2 : DataW.trod enc Tryd.prog W 0 (fun _ => true) true m 24 (List.take (Tryd.prog.cellsOf 24) [c2]) = some x2 := hg 2 _ rfl
      rw [k1] at g0
      rw [k2] at g1
      rw [k3] at g2
      replace g0 : DataW.trod enc Tryd.prog W 0 (fun _ => true) true m 22 [c0] = some x0 := g0
      replace g1 : DataW.trod enc Tryd.prog W 0 (fun _ => true) true m 23 [c1] = some x1 := g1
      replace g2 : DataW.trod enc Tryd.prog W 0 (fun _ => true) true m 24 [c2] = some x2 := g2
      have s1 : Tryd.prog.cellsOf 70 = tSet.size := by kernel_rfl
      have s2 : Tryd.prog.cellsOf 33 = (tSl tI).size := by kernel_rfl
      have s3 : Tryd.prog.cellsOf 4 = tBool.size := by kernel_rfl
      have s4 : Tryd.prog.cellsOf 3 = tI.size := by kernel_rfl
      have s5 : Tryd.prog.cellsOf 69 = 1 := by kernel_rfl
      obtain ⟨cells, ⟨ca, cc, e0, hc⟩, z0⟩ := opens_slice Tryd.underlying22 s1 (by decide) (opens_set Tryd.underlying70 Tryd.underlying69 s5 s1) _ _ _ _ g0
      obtain ⟨next, ⟨na, nc, e1, hn⟩, z1⟩ := opens_slice Tryd.underlying23 s2 (by decide) (opens_slice Tryd.underlying33 s4 (by decide) (opens_int Tryd.underlying3)) _ _ _ _ g1
      obtain ⟨final, ⟨fa, fc, e2, hf⟩, z2⟩ := opens_slice Tryd.underlying24 s3 (by decide) (opens_bool Tryd.underlying4) _ _ _ _ g2
      cases e0; cases e1; cases e2
      refine ⟨cells, next, final, ⟨ca, na, fa, cc, nc, fc, rfl, hc, hn, hf⟩, ?_⟩
      simp only [List.map_cons, List.map_nil, Rows.uptoBulk, Rows.uptoBulkAll]
      omega

end Go.Proofs.YthomdogheamfpaaDoor
/- Closing: a law that returns true and leaves all that was there as it was. -/
set_option linter.unusedVariables false
namespace Go.VC
open Go.ChangeShapes Go.WideShapes Go.ChangeAt Go.RowKit

theorem kept_of_agr {W W' : World} {may : MemPlace → Prop} (he : Env W W') (h : Agr (Old W.heap) W.heap W'.heap) : W.keptBut W' may := by
  refine ⟨he.os, he.output, fun i hi => ?_⟩
  rw [h i hi]
  split <;> simp_all
theorem frozen_of_agr {W W' : World} (h : Agr (Old W.heap) W.heap W'.heap) (a : Addr) (ha : a.block < W.heap.size) : W'.frozen? a = W.frozen? a := by
  unfold World.frozen?
  rw [h a.block ha]
theorem sameAt_of_agr {W W' : World} (h : Agr (Old W.heap) W.heap W'.heap) : ∀ p : MemPlace, p.block < W.heap.size → W.sameAt W' p
  | .cell b o, hb => by
    show W'.cell? ⟨b, o, none⟩ = W.cell? ⟨b, o, none⟩
    rw [cell_w, cell_w]
    exact cell_eq (h b hb)
  | .map b, hb => h b hb
section
variable {H : Type} {enc : TypeId × Value → H} {P : Program}
theorem all_stay {W W' : World} {sp : Nat → Bool} (hl : laidOutB P = true) (ha : Agr (Old W.heap) W.heap W'.heap) : ∀ {ts : List TypeId} {vs : List Value} {ds : List (DataW H)} {ps : List MemPlace}, (∀ t ∈ ts, P.readableRec t = true ∧ t < P.types.size) →
    DataW.TrodAll enc P W 0 (fun _ => true) true ts vs ds ps → (∀ p ∈ ps, p.block < W.heap.size) → (∀ p ∈ ps, sp p.block = true) → DataW.TrodAll enc P W' 0 sp true ts vs ds ps
  | [], vs, ds, ps, _, h, _, _ => by
    obtain ⟨rfl, rfl, rfl⟩ := trodAll_nil h
    exact trodAll_mk0
  | t :: ts, vs, ds, ps, ht, h, hlt, hsp => by
    obtain ⟨v, vs', d, ds', p, q, rfl, rfl, rfl, h1, h2⟩ := trodAll_cons h
    have ht0 := ht t List.mem_cons_self
    exact trodAll_cons_mk (WideElems.Trod_stays hl ht0.1 ht0.2 h1 (fun x hx => sameAt_of_agr ha x (hlt x (List.mem_append_left _ hx))) fun x hx => hsp x (List.mem_append_left _ hx))
      (all_stay hl ha (fun x hx => ht x (List.mem_cons_of_mem _ hx)) h2 (fun x hx => hlt x (List.mem_append_right _ hx)) fun x hx => hsp x (List.mem_append_right _ hx))
theorem trod_b {w : World} {base : Nat} {sp : Nat → Bool} {hd : Bool} {t : TypeId} {b : Bool} (h : P.underlying t = some .bool) : DataW.Trod enc P w base sp hd t (.bool b) (.lit (.bool b)) [] := ⟨1, by simp [DataW.trod, Value.cells, h]⟩
/-- The law has returned true; what was there is as it was. -/
theorem post_true {f : Func} {s : ChangeSpec} {apart fresh handsOn again : Bool} {W W' : World} {args : Array Value} {ds gs : List (DataW H)} {before : List MemPlace} {bt : TypeId}
    (hW : DataW.Whole enc P f.params.toList s.vars apart W args.toList ds gs before) (hv : s.vars = []) (hfn : (s.fn H (ds ++ gs)).results = [.lit (.bool true)] ∧ (s.fn H (ds ++ gs)).args = ds ∧ (s.fn H (ds ++ gs)).vars = [])
    (hl : laidOutB P = true) (hp : f.params.toList.all (fun t => P.readableRec t && decide (t < P.types.size)) = true) (hr : f.resultTypes = #[bt]) (hu : P.underlying bt = some .bool)
    (he : Env W W') (ha : Agr (Old W.heap) W.heap W'.heap) : s.post enc P f apart fresh handsOn again W args (.bool true) W' := by
  have hlt := hW.lt
  have hW' := hW
  obtain ⟨pa, pv, hA, hV, hbe, hz, hn⟩ := hW
  rw [hv] at hV
  obtain ⟨rfl, rfl⟩ := trodVars_none hV
  rw [List.append_nil] at hbe
  subst hbe
  obtain ⟨hres, hargs, hvars⟩ := hfn
  have hk : W.keptBut W' (fun _ => False) := kept_of_agr he ha
  have hpp : ∀ t ∈ f.params.toList, P.readableRec t = true ∧ t < P.types.size := fun t ht => by
    have := List.all_eq_true.1 hp t ht
    simpa using this
  have hst : ∀ sp : Nat → Bool, (∀ p ∈ before, sp p.block = true) → DataW.TrodAll enc P W' 0 sp true f.params.toList args.toList (s.fn H (ds ++ [])).args before := fun sp hsp => by
    rw [hargs]; exact all_stay hl ha hpp hA hlt hsp
  have hrs : ∀ (b : Nat) (sp : Nat → Bool) (hd : Bool), DataW.TrodAll enc P W' b sp hd f.resultTypes.toList ((Value.bool true).resultList f.resultTypes.size) (s.fn H (ds ++ [])).results [] := fun b sp hd => by
    rw [hres, hr]; exact trodAll_mk1 (trod_b hu)
  have hvs : ∀ sp : Nat → Bool, DataW.TrodVars enc P W' sp s.vars (s.fn H (ds ++ [])).vars [] := fun sp => by
    rw [hvars, hv]; rfl
  have hok : ∀ (j : Nat) (t : TypeId) (r : Value), f.resultTypes[j]? = some t → ((Value.bool true).resultList f.resultTypes.size)[j]? = some r → Value.okWide P W' .any 0 t r := ok_one hr rfl (okWide_bool_mk hu true)
  refine ⟨ds, [], before, [], before, [], hW', hrs _ _ _, hst _ (fun p hp => decide_eq_true (hlt p hp)), hvs _, World.keptBut_mono (fun p hp => hp.elim) hk, fun _ => ?_⟩
  refine ⟨hok, _, _, ([] ++ before) ++ [], ⟨[] ++ before, [], trodAll_append (hst _ (fun _ _ => rfl)) (hrs _ _ _), hvs _, rfl, ?_, ?_⟩, ?_⟩
  · intro b off hp
    simp only [List.nil_append, List.append_nil] at hp
    rw [frozen_of_agr ha _ (hlt _ hp)]
    exact hz b off hp
  · intro hap
    have := hn hap
    simpa using this
  · intro p hp _
    simpa using hp
end

end Go.VC
/- A table that is handed in, small enough. -/
set_option linter.unusedVariables false
set_option maxRecDepth 100000
namespace Go.Proofs.YthomdogheamfpaaDoor
open Go.VC
theorem own_ : ownKnob Tryd.prog.godebug = none := by kernel_rfl
theorem laid_ : laidOutB Tryd.prog = true := by kernel_rfl
theorem tabIn_of {W : World} {v : Value} {cells : List (BitVec 256)} {next : List (List Int)} {final : List Bool} (h : TableV W v cells next final) (hb : szL (fun _ => 1) cells + szL (szL fun _ => 1) next + szL (fun _ => 1) final ≤ 1048576) : TabIn (InW W) W.heap v cells next final := by
  obtain ⟨ca, na, fa, cc, nc, fc, rfl, h1, h2, h3⟩ := h
  have b1 := szL_len (sz := fun _ : BitVec 256 => 1) (fun _ => Nat.le_refl _) cells
  have b2 := szL_len (sz := szL fun _ : Int => 1) (fun x => by have := szL_len (sz := fun _ : Int => 1) (fun _ => Nat.le_refl _) x; omega) next
  have b3 := szL_len (sz := fun _ : Bool => 1) (fun _ => Nat.le_refl _) final
  refine ⟨fun k hk => hk, ⟨ca, na, fa, cc, nc, fc, rfl, h1, h2, h3⟩, by omega, by omega, fun row hrow => ?_, by omega⟩
  have b4 := szL_mem (sz := szL fun _ : Int => 1) hrow
  have b5 := szL_len (sz := fun _ : Int => 1) (fun _ => Nat.le_refl _) row
  omega
theorem small_of {H : Type} {ds : List (DataW H)} (h : Rows.uptoSmall H ds = true) : Rows.uptoBulkAll ds ≤ 1048576 := by simpa [Rows.uptoSmall] using h
end Go.Proofs.YthomdogheamfpaaDoor
