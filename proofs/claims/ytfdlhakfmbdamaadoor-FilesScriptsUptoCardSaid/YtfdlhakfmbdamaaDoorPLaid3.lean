/- The four causes out of a row's list; a world for the witness. -/
import Derived.Test.YtfdlhakfmbdamaaDoorRows
import Derived.Test.YtfdlhakfmbdamaaDoorPFs7
import Derived.Stop.LaidErr
import Derived.MakeChecks
set_option linter.unusedVariables false
set_option linter.unusedSimpArgs false
set_option maxRecDepth 100000
namespace Go.Proofs.YtfdlhakfmbdamaaDoor
open Go.VC
open Go.ChangeShapes Go.RowKit
theorem star_s : "*" ++ "errors.errorString" = "*errors.errorString" := by decide
theorem row_s (u : TypeId) (h : Tryd.prog.typeName? 3 u = some "*errors.errorString") : u = 141 :=
  typeName_ptr_named (nm := "errors.errorString") (by rw [star_s]; kernel_rfl) (by kernel_rfl) (by decide) u (by rw [star_s]; exact h)
theorem cells_s : Tryd.prog.cellsOf 165 = 1 := by kernel_rfl
theorem cells_t : Tryd.prog.cellsOf 9 = 1 := by kernel_rfl
theorem gn_1 : Tryd.prog.globalNamed "loupe/files.ErrMissing" = some 3 := by kernel_rfl
theorem gt_1 : (Tryd.prog.globals[3]?).map (·.type) = some 35 := by kernel_rfl
theorem gn_2 : Tryd.prog.globalNamed "loupe/files.ErrBroken" = some 2 := by kernel_rfl
theorem gt_2 : (Tryd.prog.globals[2]?).map (·.type) = some 35 := by kernel_rfl
theorem gn_3 : Tryd.prog.globalNamed "loupe/files.ErrFull" = some 0 := by kernel_rfl
theorem gt_3 : (Tryd.prog.globals[0]?).map (·.type) = some 35 := by kernel_rfl
theorem gn_4 : Tryd.prog.globalNamed "loupe/files.ErrBadName" = some 1 := by kernel_rfl
theorem gt_4 : (Tryd.prog.globals[1]?).map (·.type) = some 35 := by kernel_rfl
theorem spot_of_cell {W : World} {a : Addr} {v : Value} (h : W.cell? a = some v) : a = ⟨a.block, a.off, none⟩ := by
  obtain ⟨b, o, sp⟩ := a
  cases sp with
  | none => rfl
  | some x =>
    unfold World.cell? at h
    split at h
    · simp at h
    · cases h
theorem text_of {s : ByteArray} {l : List UInt8} (h : s.data.toList = l) : s = ⟨l.toArray⟩ := by
  subst h; simp
def pick4 (a b c d : Nat) : Nat → Nat
  | 1 => a
  | 2 => b
  | 3 => c
  | _ => d
theorem sent_of_laid {W : World} (h : laidMetH Tryd.prog Rows.filesNilUptoRow.laid W) : ∃ b o, SentH W.heap b o := by
  replace h : laidMet Tryd.prog Rows.filesNilUptoRow.laid W := h
  obtain ⟨ps, ⟨g0, t0, cs0, f0, p0, q0, hg0, ht0, hv0, hd0, ⟨g1, t1, cs1, f1, p1, q1, hg1, ht1, hv1, hd1, ⟨g2, t2, cs2, f2, p2, q2, hg2, ht2, hv2, hd2, ⟨g3, t3, cs3, f3, p3, q3, hg3, ht3, hv3, hd3, hq, e3⟩, e2⟩, e1⟩, e0⟩, hnd, hrows⟩ := h
  obtain rfl := Option.some.inj (gn_1.symm.trans hg0)
  obtain rfl := Option.some.inj (gt_1.symm.trans ht0)
  obtain rfl := Option.some.inj (gn_2.symm.trans hg1)
  obtain rfl := Option.some.inj (gt_2.symm.trans ht1)
  obtain rfl := Option.some.inj (gn_3.symm.trans hg2)
  obtain rfl := Option.some.inj (gt_3.symm.trans ht2)
  obtain rfl := Option.some.inj (gn_4.symm.trans hg3)
  obtain rfl := Option.some.inj (gt_4.symm.trans ht3)
  have hq' : q3 = [] := hq
  subst hq'
  subst e3
  subst e2
  subst e1
  subst e0
  obtain ⟨l0⟩ := cs0
  have ok0 : ∀ u v, l0 = [.iface u v] → Value.okWide Tryd.prog W .any 0 u v := fun u v e => by
    subst e
    exact (hrows 3 0 (by simp [MemPlace.row])).2 u v (by simpa using World.var?_cell hg0 hv0 0)
  obtain ⟨l1⟩ := cs1
  have ok1 : ∀ u v, l1 = [.iface u v] → Value.okWide Tryd.prog W .any 0 u v := fun u v e => by
    subst e
    exact (hrows 2 0 (by simp [MemPlace.row])).2 u v (by simpa using World.var?_cell hg1 hv1 0)
  obtain ⟨l2⟩ := cs2
  have ok2 : ∀ u v, l2 = [.iface u v] → Value.okWide Tryd.prog W .any 0 u v := fun u v e => by
    subst e
    exact (hrows 0 0 (by simp [MemPlace.row])).2 u v (by simpa using World.var?_cell hg2 hv2 0)
  obtain ⟨l3⟩ := cs3
  have ok3 : ∀ u v, l3 = [.iface u v] → Value.okWide Tryd.prog W .any 0 u v := fun u v e => by
    subst e
    exact (hrows 1 0 (by simp [MemPlace.row])).2 u v (by simpa using World.var?_cell hg3 hv3 0)
  obtain ⟨a0, s0, rfl, hc0, hs0, hz0, rfl⟩ := errorString_of_trod Tryd.underlying35 row_s Tryd.underlying141 Tryd.underlying165 rfl rfl Tryd.underlying9 cells_s cells_t hd0 ok0
  obtain ⟨a1, s1, rfl, hc1, hs1, hz1, rfl⟩ := errorString_of_trod Tryd.underlying35 row_s Tryd.underlying141 Tryd.underlying165 rfl rfl Tryd.underlying9 cells_s cells_t hd1 ok1
  obtain ⟨a2, s2, rfl, hc2, hs2, hz2, rfl⟩ := errorString_of_trod Tryd.underlying35 row_s Tryd.underlying141 Tryd.underlying165 rfl rfl Tryd.underlying9 cells_s cells_t hd2 ok2
  obtain ⟨a3, s3, rfl, hc3, hs3, hz3, rfl⟩ := errorString_of_trod Tryd.underlying35 row_s Tryd.underlying141 Tryd.underlying165 rfl rfl Tryd.underlying9 cells_s cells_t hd3 ok3
  obtain ⟨c0, u0, hb0⟩ := (hrows a0.block a0.off (by simp [MemPlace.row])).1
  have hsp0 := spot_of_cell hc0
  obtain ⟨c1, u1, hb1⟩ := (hrows a1.block a1.off (by simp [MemPlace.row])).1
  have hsp1 := spot_of_cell hc1
  obtain ⟨c2, u2, hb2⟩ := (hrows a2.block a2.off (by simp [MemPlace.row])).1
  have hsp2 := spot_of_cell hc2
  obtain ⟨c3, u3, hb3⟩ := (hrows a3.block a3.off (by simp [MemPlace.row])).1
  have hsp3 := spot_of_cell hc3
  refine ⟨pick4 a0.block a1.block a2.block a3.block, pick4 a0.off a1.off a2.off a3.off, ?_, ?_, ?_, ?_, ?_⟩
  · intro n h1 h2
    match n, h1, h2 with
    | 1, _, _ =>
      have := World.var?_cell gn_1 hv0 0
      rw [cell_w] at this
      show VC.cell W.heap 3 0 = some (.iface _ (.pointer (some ⟨a0.block, a0.off, none⟩)))
      rw [← hsp0]
      exact this
    | 2, _, _ =>
      have := World.var?_cell gn_2 hv1 0
      rw [cell_w] at this
      show VC.cell W.heap 2 0 = some (.iface _ (.pointer (some ⟨a1.block, a1.off, none⟩)))
      rw [← hsp1]
      exact this
    | 3, _, _ =>
      have := World.var?_cell gn_3 hv2 0
      rw [cell_w] at this
      show VC.cell W.heap 0 0 = some (.iface _ (.pointer (some ⟨a2.block, a2.off, none⟩)))
      rw [← hsp2]
      exact this
    | 4, _, _ =>
      have := World.var?_cell gn_4 hv3 0
      rw [cell_w] at this
      show VC.cell W.heap 1 0 = some (.iface _ (.pointer (some ⟨a3.block, a3.off, none⟩)))
      rw [← hsp3]
      exact this
  · intro n h1 h2
    have lt : ∀ (nm : String) (g : Nat) (cs : Array Value), Tryd.prog.globalNamed nm = some g → W.var? Tryd.prog nm = some cs → g < W.heap.size := fun nm g cs hg hv => by
      unfold World.var? at hv
      rw [hg] at hv
      apply Classical.byContradiction
      intro hn
      simp only [Option.bind_some] at hv
      rw [Array.getElem?_eq_none (by omega)] at hv
      simp at hv
    match n, h1, h2 with
    | 1, _, _ => exact lt _ _ _ gn_1 hv0
    | 2, _, _ => exact lt _ _ _ gn_2 hv1
    | 3, _, _ => exact lt _ _ _ gn_3 hv2
    | 4, _, _ => exact lt _ _ _ gn_4 hv3
  · intro n h1 h2
    match n, h1, h2 with
    | 1, _, _ =>
      show VC.cell W.heap a0.block a0.off = some (.string (causeT 1))
      rw [← cell_w, ← hsp0, hc0, text_of hs0]
      rfl
    | 2, _, _ =>
      show VC.cell W.heap a1.block a1.off = some (.string (causeT 2))
      rw [← cell_w, ← hsp1, hc1, text_of hs1]
      rfl
    | 3, _, _ =>
      show VC.cell W.heap a2.block a2.off = some (.string (causeT 3))
      rw [← cell_w, ← hsp2, hc2, text_of hs2]
      rfl
    | 4, _, _ =>
      show VC.cell W.heap a3.block a3.off = some (.string (causeT 4))
      rw [← cell_w, ← hsp3, hc3, text_of hs3]
      rfl
  · intro n h1 h2
    match n, h1, h2 with
    | 1, _, _ => exact ⟨c0, u0, hb0⟩
    | 2, _, _ => exact ⟨c1, u1, hb1⟩
    | 3, _, _ => exact ⟨c2, u2, hb2⟩
    | 4, _, _ => exact ⟨c3, u3, hb3⟩
  · intro m n h1 h2 h3 h4 e1 e2
    simp only [MemPlace.row, List.range_succ, List.range_zero, List.nil_append, List.map_cons, List.map_nil, List.cons_append, List.singleton_append, List.append_nil] at hnd
    match m, n, h1, h2, h3, h4, e1, e2 with
    | 1, 1, _, _, _, _, _, _ => rfl
    | 1, 2, _, _, _, _, e1, e2 =>
      have e1 : a0.block = a1.block := e1
      have e2 : a0.off = a1.off := e2
      exfalso
      simp [e1, e2] at hnd
    | 1, 3, _, _, _, _, e1, e2 =>
      have e1 : a0.block = a2.block := e1
      have e2 : a0.off = a2.off := e2
      exfalso
      simp [e1, e2] at hnd
    | 1, 4, _, _, _, _, e1, e2 =>
      have e1 : a0.block = a3.block := e1
      have e2 : a0.off = a3.off := e2
      exfalso
      simp [e1, e2] at hnd
    | 2, 1, _, _, _, _, e1, e2 =>
      have e1 : a1.block = a0.block := e1
      have e2 : a1.off = a0.off := e2
      exfalso
      simp [e1, e2] at hnd
    | 2, 2, _, _, _, _, _, _ => rfl
    | 2, 3, _, _, _, _, e1, e2 =>
      have e1 : a1.block = a2.block := e1
      have e2 : a1.off = a2.off := e2
      exfalso
      simp [e1, e2] at hnd
    | 2, 4, _, _, _, _, e1, e2 =>
      have e1 : a1.block = a3.block := e1
      have e2 : a1.off = a3.off := e2
      exfalso
      simp [e1, e2] at hnd
    | 3, 1, _, _, _, _, e1, e2 =>
      have e1 : a2.block = a0.block := e1
      have e2 : a2.off = a0.off := e2
      exfalso
      simp [e1, e2] at hnd
    | 3, 2, _, _, _, _, e1, e2 =>
      have e1 : a2.block = a1.block := e1
      have e2 : a2.off = a1.off := e2
      exfalso
      simp [e1, e2] at hnd
    | 3, 3, _, _, _, _, _, _ => rfl
    | 3, 4, _, _, _, _, e1, e2 =>
      have e1 : a2.block = a3.block := e1
      have e2 : a2.off = a3.off := e2
      exfalso
      simp [e1, e2] at hnd
    | 4, 1, _, _, _, _, e1, e2 =>
      have e1 : a3.block = a0.block := e1
      have e2 : a3.off = a0.off := e2
      exfalso
      simp [e1, e2] at hnd
    | 4, 2, _, _, _, _, e1, e2 =>
      have e1 : a3.block = a1.block := e1
      have e2 : a3.off = a1.off := e2
      exfalso
      simp [e1, e2] at hnd
    | 4, 3, _, _, _, _, e1, e2 =>
      have e1 : a3.block = a2.block := e1
      have e2 : a3.off = a2.off := e2
      exfalso
      simp [e1, e2] at hnd
    | 4, 4, _, _, _, _, _, _ => rfl
noncomputable def lowW : Nat := (World.holding Tryd.prog default ⟨#[], #[], []⟩).heap.size
def putIf (vs : Array Value) : Obj → Obj
  | .cells _ t frozen => .cells vs t frozen
  | o => o
noncomputable def laidW3 (os : Os) : World :=
  let w0 := World.holding Tryd.prog os ⟨#[.cells #[.string (causeT 1)] 165, .cells #[.string (causeT 2)] 165, .cells #[.string (causeT 3)] 165, .cells #[.string (causeT 4)] 165], #[], []⟩
  { w0 with heap := (((w0.heap.modify 3 (putIf #[.iface 141 (.pointer (some ⟨lowW, 0, none⟩))])).modify 2 (putIf #[.iface 141 (.pointer (some ⟨lowW + 1, 0, none⟩))])).modify 0 (putIf #[.iface 141 (.pointer (some ⟨lowW + 2, 0, none⟩))])).modify 1 (putIf #[.iface 141 (.pointer (some ⟨lowW + 3, 0, none⟩))]) }
end Go.Proofs.YtfdlhakfmbdamaaDoor
