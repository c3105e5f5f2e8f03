/- What the closing texts of the Files laws with files and failures as arguments need. -/
import Derived.Test.YtfdlhakfmbdamaaDoorPTopIn3
import Derived.Test.YtfdlhakfmbdamaaDoorPFk2
set_option linter.unusedVariables false
set_option linter.unusedSimpArgs false
set_option maxRecDepth 100000
namespace Go.Proofs.YtfdlhakfmbdamaaDoor
open Go.VC Go
section
variable {H : Type} {enc : TypeId × Value → H} {W : World}
theorem opens_thing : Opens enc Tryd.prog W tFile (fun p => p.1.size + p.2.size + 1) 25 := by
  intro fuel cs d ps h
  obtain ⟨xs, m, rfl, hd, hl, hx, hg⟩ := DataW.trod_struct Tryd.underlying25 h
  cases hd
  have h2 : Tryd.prog.cellsOf 25 = 2 := by kernel_rfl
  have k1 : Tryd.prog.cellsOf 9 = 1 := by kernel_rfl
  rw [h2] at hl
  have hx2 : xs.length = 2 := hx
  match cs, hl, xs, hx2 with
  | [c0, c1], _, [x0, x1], _ =>
    have g0 : DataW.trod enc Tryd.prog W 0 (fun _ => true) true m 9 (List.take (Tryd.prog.cellsOf 9) [c0, c1]) = some x0 := hg 0 _ rfl
    have g1 : DataW.trod enc Tryd.prog W 0 (fun _ => true) true m 9 (List.take (Tryd.prog.cellsOf 9) [c1]) = some x1 := hg 1 _ rfl
    rw [k1] at g0 g1
    obtain ⟨s0, ⟨e0, o0⟩, z0⟩ := opens_str Tryd.underlying9 _ _ _ _ g0
    obtain ⟨s1, ⟨e1, o1⟩, z1⟩ := opens_str Tryd.underlying9 _ _ _ _ g1
    cases e0; cases e1
    have y0 : s0.size + 1 ≤ Rows.uptoBulk x0.1 := z0
    have y1 : s1.size + 1 ≤ Rows.uptoBulk x1.1 := z1
    exact ⟨(s0, s1), ⟨[.string s0], [.string s1], rfl, ⟨rfl, o0⟩, ⟨rfl, o1⟩⟩, by simp only [List.map_cons, List.map_nil, Rows.uptoBulk, Rows.uptoBulkAll]; omega⟩
theorem opens_break : Opens enc Tryd.prog W tBrk (fun _ => 1) 67 := by
  intro fuel cs d ps h
  obtain ⟨xs, m, rfl, hd, hl, hx, hg⟩ := DataW.trod_struct Tryd.underlying67 h
  cases hd
  have h3 : Tryd.prog.cellsOf 67 = 3 := by kernel_rfl
  have k1 : Tryd.prog.cellsOf 3 = 1 := by kernel_rfl
  have k2 : Tryd.prog.cellsOf 4 = 1 := by kernel_rfl
  rw [h3] at hl
  have hx3 : xs.length = 3 := hx
  match cs, hl, xs, hx3 with
  | [c0, c1, c2], _, [x0, x1, x2], _ =>
    have g0 : DataW.trod enc Tryd.prog W 0 (fun _ => true) true m 4 (List.take (Tryd.prog.cellsOf 4) [c0, c1, c2]) = some x0 := hg 0 _ rfl
    have g1 : DataW.trod enc Tryd.prog W 0 (fun _ => true) true m 3 (List.take (Tryd.prog.cellsOf 3) [c1, c2]) = some x1 := hg 1 _ rfl
    have g2 : DataW.trod enc Tryd.prog W 0 (fun _ => true) true m 3 (List.take (Tryd.prog.cellsOf 3) [c2]) = some x2 := hg 2 _ rfl
    rw [k2] at g0
    rw [k1] at g1 g2
    obtain ⟨b0, e0, -⟩ := opens_bool Tryd.underlying4 _ _ _ _ g0
    obtain ⟨n1, ⟨e1, o1⟩, -⟩ := opens_int Tryd.underlying3 _ _ _ _ g1
    obtain ⟨n2, ⟨e2, o2⟩, -⟩ := opens_int Tryd.underlying3 _ _ _ _ g2
    cases e0; cases e1; cases e2
    exact ⟨(b0, n1, n2), ⟨[.bool b0], [.int .i64 n1, .int .i64 n2], rfl, rfl, [.int .i64 n1], [.int .i64 n2], rfl, ⟨rfl, o1⟩, ⟨rfl, o2⟩⟩, by simp [Rows.uptoBulk]⟩
theorem open_things {base : Nat} {v : Value} {d : DataW H} {ps : List MemPlace} (hval : Value.okWide Tryd.prog W .any base 22 v) (h : DataW.Trod enc Tryd.prog W 0 (fun _ => true) true 22 v d ps) :
    ∃ a cap, ∃ l : List (ByteArray × ByteArray), v = .slice a l.length cap ∧ SlD tFile (InW W) W.heap a cap l ∧ l.length + 1 ≤ Rows.uptoBulk d := by
  obtain ⟨fuel, h⟩ := h
  have k3 : Tryd.prog.cellsOf 25 = tFile.size := by kernel_rfl
  obtain ⟨l, ⟨a, cap, e, hs⟩, hz⟩ := opens_slice Tryd.underlying22 k3 (by decide) opens_thing _ _ _ _ h
  refine ⟨a, cap, l, slice_cell Tryd.underlying22 hval e, hs, ?_⟩
  have := szL_len (sz := fun p : ByteArray × ByteArray => p.1.size + p.2.size + 1) (fun _ => Nat.le_add_left _ _) l
  omega
theorem open_breaks {base : Nat} {v : Value} {d : DataW H} {ps : List MemPlace} (hval : Value.okWide Tryd.prog W .any base 23 v) (h : DataW.Trod enc Tryd.prog W 0 (fun _ => true) true 23 v d ps) :
    ∃ a cap, ∃ l : List (Bool × Int × Int), v = .slice a l.length cap ∧ SlD tBrk (InW W) W.heap a cap l ∧ l.length + 1 ≤ Rows.uptoBulk d := by
  obtain ⟨fuel, h⟩ := h
  have k3 : Tryd.prog.cellsOf 67 = tBrk.size := by kernel_rfl
  obtain ⟨l, ⟨a, cap, e, hs⟩, hz⟩ := opens_slice Tryd.underlying23 k3 (by decide) opens_break _ _ _ _ h
  refine ⟨a, cap, l, slice_cell Tryd.underlying23 hval e, hs, ?_⟩
  have := szL_len (sz := fun _ : Bool × Int × Int => 1) (fun _ => Nat.le_refl _) l
  omega
theorem open_thing {base : Nat} {v : Value} {d : DataW H} {ps : List MemPlace} (hval : Value.okWide Tryd.prog W .any base 25 v) (h : DataW.Trod enc Tryd.prog W 0 (fun _ => true) true 25 v d ps) :
    ∃ n0 n1, v = .agg (fileL (n0, n1)).toArray ∧ n0.size + n1.size + 1 ≤ Rows.uptoBulk d := by
  obtain ⟨fuel, h⟩ := h
  have hu := Tryd.underlying25
  have h2 : Tryd.prog.cellsOf 25 = 2 := by kernel_rfl
  obtain ⟨p, hr, hz⟩ := opens_thing _ _ _ _ h
  obtain ⟨e, -, -⟩ := file_rep hr
  simp only [Value.okWide, hu] at hval
  obtain ⟨cs, rfl, hsz, -⟩ := hval
  refine ⟨p.1, p.2, ?_, hz⟩
  have e : cs.toList = fileL p := e
  rw [← e]
end
theorem filesKept_q (things : List (ByteArray × ByteArray)) (breaks : List (Bool × Int × Int)) (n0 n1 : ByteArray) (ta ba0 : Option Addr) (tc bc0 : Nat) (S : Nat → Prop) (H : Heap) (hS : ∀ k, S k → k < H.size) (hv : SlD tFile S H ta tc things) (hl1 : things.length ≤ 1048576) (hw : SlD tBrk S H ba0 bc0 breaks) (hl2 : breaks.length ≤ 1048576) (hn : n0.size + n1.size ≤ 1048576) (hs : ∃ b o, SentH H b o) :
    Pure Tryd.prog 3 #[.slice ta things.length tc, .slice ba0 breaks.length bc0, .agg (fileL (n0, n1)).toArray] H (.bool true) := by
  obtain ⟨b, o, sen⟩ := hs
  exact filesKept_p hv hw hS hl1 hl2 (by omega) (by omega) sen
end Go.Proofs.YtfdlhakfmbdamaaDoor
