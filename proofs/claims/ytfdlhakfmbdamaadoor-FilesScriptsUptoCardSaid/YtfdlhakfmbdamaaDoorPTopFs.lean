/- What the closing text of FilesScripts needs: a script as an argument. -/
import Derived.Test.YtfdlhakfmbdamaaDoorPTopFk
import Derived.Test.YtfdlhakfmbdamaaDoorPFk3
set_option linter.unusedVariables false
set_option linter.unusedSimpArgs false
set_option maxRecDepth 100000
namespace Go.Proofs.YtfdlhakfmbdamaaDoor
open Go.VC Go
section
variable {H : Type} {enc : TypeId × Value → H} {W : World}
theorem opens_act : Opens enc Tryd.prog W tAct (fun a => a.2.1.size + a.2.2.1.size + 1) 46 := by
  intro fuel cs d ps h
  obtain ⟨xs, m, rfl, hd, hl, hx, hg⟩ := DataW.trod_struct Tryd.underlying46 h
  cases hd
  have h4 : Tryd.prog.cellsOf 46 = 4 := by kernel_rfl
  have k1 : Tryd.prog.cellsOf 3 = 1 := by kernel_rfl
  have k2 : Tryd.prog.cellsOf 4 = 1 := by kernel_rfl
  have k3 : Tryd.prog.cellsOf 9 = 1 := by kernel_rfl
  rw [h4] at hl
  have hx4 : xs.length = 4 := hx
  match cs, hl, xs, hx4 with
  | [c0, c1, c2, c3], _, [x0, x1, x2, x3], _ =>
    have g0 : DataW.trod enc Tryd.prog W 0 (fun _ => true) true m 3 (List.take (Tryd.prog.cellsOf 3) [c0, c1, c2, c3]) = some x0 := hg 0 _ rfl
    have g1 : DataW.trod enc Tryd.prog W 0 (fun _ => true) true m 9 (List.take (Tryd.prog.cellsOf 9) [c1, c2, c3]) = some x1 := hg 1 _ rfl
    have g2 : DataW.trod enc Tryd.prog W 0 (fun _ => true) true m 9 (List.take (Tryd.prog.cellsOf 9) [c2, c3]) = some x2 := hg 2 _ rfl
    have g3 : DataW.trod enc Tryd.prog W 0 (fun _ => true) true m 4 (List.take (Tryd.prog.cellsOf 4) [c3]) = some x3 := hg 3 _ rfl
    rw [k1] at g0
    rw [k3] at g1 g2
    rw [k2] at g3
    obtain ⟨n0, ⟨e0, o0⟩, -⟩ := opens_int Tryd.underlying3 _ _ _ _ g0
    obtain ⟨s1, ⟨e1, o1⟩, z1⟩ := opens_str Tryd.underlying9 _ _ _ _ g1
    obtain ⟨s2, ⟨e2, o2⟩, z2⟩ := opens_str Tryd.underlying9 _ _ _ _ g2
    obtain ⟨b3, e3, -⟩ := opens_bool Tryd.underlying4 _ _ _ _ g3
    cases e0; cases e1; cases e2; cases e3
    have y1 : s1.size + 1 ≤ Rows.uptoBulk x1.1 := z1
    have y2 : s2.size + 1 ≤ Rows.uptoBulk x2.1 := z2
    exact ⟨(n0, s1, s2, b3), ⟨[.int .i64 n0], [.string s1, .string s2, .bool b3], rfl, ⟨rfl, o0⟩, [.string s1], [.string s2, .bool b3], rfl, ⟨rfl, o1⟩, [.string s2], [.bool b3], rfl, ⟨rfl, o2⟩, rfl⟩, by simp only [List.map_cons, List.map_nil, Rows.uptoBulk, Rows.uptoBulkAll]; omega⟩
theorem open_acts {base : Nat} {v : Value} {d : DataW H} {ps : List MemPlace} (hval : Value.okWide Tryd.prog W .any base 40 v) (h : DataW.Trod enc Tryd.prog W 0 (fun _ => true) true 40 v d ps) :
    ∃ a cap, ∃ l : List Act, v = .slice a l.length cap ∧ (SlD tAct (InW W) W.heap a cap l ∧ ∀ x ∈ l, x.2.1.size + x.2.2.1.size + 1 ≤ Rows.uptoBulk d) ∧ l.length + 1 ≤ Rows.uptoBulk d := by
  obtain ⟨fuel, h⟩ := h
  have k3 : Tryd.prog.cellsOf 46 = tAct.size := by kernel_rfl
  obtain ⟨l, ⟨a, cap, e, hs⟩, hz⟩ := opens_slice Tryd.underlying40 k3 (by decide) opens_act _ _ _ _ h
  refine ⟨a, cap, l, slice_cell Tryd.underlying40 hval e, ⟨hs, fun x hx => ?_⟩, ?_⟩
  · have := szL_mem (sz := fun a : Act => a.2.1.size + a.2.2.1.size + 1) hx
    have h2 : x.2.1.size + x.2.2.1.size + 1 ≤ szL (fun a : Act => a.2.1.size + a.2.2.1.size + 1) l := this
    omega
  · have := szL_len (sz := fun a : Act => a.2.1.size + a.2.2.1.size + 1) (fun _ => Nat.le_add_left _ _) l
    omega
end
theorem filesScripts_q (things : List (ByteArray × ByteArray)) (breaks : List (Bool × Int × Int)) (acts : List Act) (ta ba0 sa : Option Addr) (tc bc0 sc : Nat) (S : Nat → Prop) (H : Heap) (hS : ∀ k, S k → k < H.size) (hv : SlD tFile S H ta tc things) (hl1 : things.length ≤ 1048576) (hw : SlD tBrk S H ba0 bc0 breaks) (hl2 : breaks.length ≤ 1048576) {n : Nat} (hu : SlD tAct S H sa sc acts ∧ ∀ x ∈ acts, x.2.1.size + x.2.2.1.size + 1 ≤ n) (hl3 : acts.length ≤ 1048576) (hn : n ≤ 1048577) (hs : ∃ b o, SentH H b o) :
    Pure Tryd.prog 4 #[.slice ta things.length tc, .slice ba0 breaks.length bc0, .slice sa acts.length sc] H (.bool true) := by
  obtain ⟨b, o, sen⟩ := hs
  exact filesScripts_p hv hw hu.1 hS hl1 hl2 hl3 (fun a ha => by have := hu.2 a ha; omega) sen
end Go.Proofs.YtfdlhakfmbdamaaDoor
