/- The nodes of ambig's graph: as keys of maps, in memory. -/
import Derived.Test.YtpnnedkpbmilkaaVMapX
import Derived.Test.YtpnnedkpbmilkaaPReps
set_option linter.unusedVariables false
set_option linter.unusedSimpArgs false
set_option maxRecDepth 100000
namespace Go.Proofs.Ytpnnedkpbmilkaa
open Go.VC

/-- A node: its stage, where its readers are. -/
structure Nd where
  s : Int
  x : Int
  y : Int
deriving DecidableEq
def Nd.Ok (n : Nd) : Prop := inK .i64 n.s ∧ inK .i64 n.x ∧ inK .i64 n.y
def ndV (n : Nd) : Value := .agg #[.int .i64 n.s, .int .i64 n.x, .int .i64 n.y]
def ndL (n : Nd) : List Value := [.int .i64 n.s, .int .i64 n.x, .int .i64 n.y]
theorem ndV_inj (a b : Nd) (h : ndV a = ndV b) : a = b := by
  obtain ⟨s, x, y⟩ := a
  obtain ⟨s', x', y'⟩ := b
  simp only [ndV, Value.agg.injEq, Array.mk.injEq, List.cons.injEq, Value.int.injEq, true_and, and_true] at h
  obtain ⟨h1, h2, h3⟩ := h
  subst h1; subst h2; subst h3; rfl
theorem int_wf {x : Int} (h : inK .i64 x) : (Lit.int .i64 x).wf = true := by
  unfold Lit.wf
  simp only [Bool.and_eq_true, decide_eq_true_eq]
  exact h
theorem node_lits (m : Nat) {n : Nd} (h : n.Ok) : Try.prog.keyLits (m + 2) 114 (ndL n) = some [.int .i64 n.s, .int .i64 n.x, .int .i64 n.y] := by
  have c1 : Try.prog.cellsOf 114 = 3 := by kernel_rfl
  have c2 : Try.prog.cellsOf 3 = 1 := by kernel_rfl
  simp [Program.keyLits, Try.underlying114, Try.underlying3, c1, c2, ndL, int_wf h.1, int_wf h.2.1, int_wf h.2.2]
theorem node_key {n : Nd} (h : n.Ok) : ∃ l, keyOf Try.prog 114 (ndV n) = some l := by
  have hk : Try.prog.keyType 114 = true := by kernel_rfl
  have c1 : Try.prog.cellsOf 114 = 3 := by kernel_rfl
  have hf : (ndV n).formed Try.prog 114 = true := by simp [ndV, Value.formed, Try.underlying114, c1]
  obtain ⟨m, hm⟩ : ∃ m, Try.prog.types.size + 1 = m + 2 := ⟨Try.prog.types.size - 1, by
    have : decide (1 ≤ Try.prog.types.size) = true := by kernel_rfl
    have := of_decide_eq_true this
    omega⟩
  refine ⟨.string (keyBytes [.int .i64 n.s, .int .i64 n.x, .int .i64 n.y]), ?_⟩
  unfold keyOf
  simp only [Try.underlying114, hk, hf, Bool.and_self, if_true]
  rw [hm, show (ndV n).cells.toList = ndL n from rfl, node_lits m h]
  rfl
theorem keyN : KeyW Try.prog 114 Nd.Ok ndV :=
  KeyW.ofLaw (deep_law (m := 2) (by decide) (by kernel_rfl) (by kernel_rfl) (by simp [Try.underlying114])) ndV_inj fun a h => node_key h
/-- Nodes in memory. -/
def tNd : Ty Nd where
  size := 3
  rep _ _ cs n := cs = ndL n
  len h := by rw [h]; rfl
  frame h _ := h
  mono h _ := h
theorem tNd_ones : tNd.Ones := by
  intro S H cs n h u hu
  obtain rfl := h
  simp only [ndL, List.mem_cons, List.not_mem_nil, or_false] at hu
  rcases hu with rfl | rfl | rfl <;> rfl
end Go.Proofs.Ytpnnedkpbmilkaa
