/- Automata of the document in memory, parted bytes; two states of memory one behind the other. -/
import Derived.Test.YtpnnedkpbmilkaaPGam0
set_option linter.unusedVariables false
set_option linter.unusedSimpArgs false
set_option maxRecDepth 100000
namespace Go.VC
/-- What was made later stands beside what was there. -/
theorem StB.cat {B : Nat → Prop} {H0 H H' : Heap} {ps qs : List Pc} (st : StB B H0 H ps) (st2 : St H H' qs) : StB B H0 H' (ps ++ qs) := by
  have h1 := st.call st2.old
  refine ⟨h1.old, h1.lt0, h1.size, fun p hp => ?_, fun p hp k hk => ?_, ?_⟩
  · rcases List.mem_append.1 hp with hp | hp
    · exact h1.oks p hp
    · exact st2.oks p hp
  · rcases List.mem_append.1 hp with hp | hp
    · exact h1.rng p hp k hk
    · obtain ⟨h2, h3⟩ := st2.rng p hp k hk
      exact ⟨fun hB => h2 (st.up hB), h3⟩
  · refine List.pairwise_append.2 ⟨h1.dis, st2.dis, fun p hp q hq k hk hk' => ?_⟩
    exact (st2.rng q hq k hk').1 (st.rng p hp k hk).2
end Go.VC
namespace Go.Proofs.Ytpnnedkpbmilkaa
open Go.VC
attribute [local irreducible] mRun gRun atRun
theorem dfa_len {S : Nat → Prop} {H : Heap} {la : List Value} {D : DM} (h : DfaV S H (.agg la.toArray) D) : la.length = 259 ∧ ∃ fa fc, la[258]? = some (.slice fa D.final.length fc) ∧ SlD tBool S H fa fc D.final := by
  obtain ⟨hl, ra, rc, na, nc, fa, fc, e, h1, h2, h3⟩ := h
  injection e with e
  have e : la = dfaL D.cell (.slice ra D.reps.length rc) (.slice na D.next.length nc) (.slice fa D.final.length fc) := by simpa using e
  subst e
  exact ⟨dfaL_len hl, fa, fc, dfaL_258 hl, h3⟩
theorem fin_ix {S S0 : Nat → Prop} {H : Heap} {fa : Option Addr} {fc : Nat} {D : DM} {x : Int} {K : Value → Prop} (h : SlD tBool S H fa fc D.final) (h0 : 0 ≤ x) (h1 : x < D.final.length) (hk : ∀ b o, S b → VC.cell H b o = some (.bool (finD D x)) → K (.pointer (some ⟨b, o, none⟩))) :
    VDet Try.prog (Instr.indexAt 24 (.slice fa D.final.length fc) (.int .i64 x)) S0 H K := by
  obtain ⟨n, rfl⟩ := Int.eq_ofNat_of_zero_le h0
  obtain ⟨f, hf⟩ := get_some (l := D.final) (k := n) (by omega)
  refine ixr (i := n) sl24 h hf rfl ?_
  rintro b o cs hS hc rfl
  refine hk b o hS ?_
  rw [hc.one]
  simp [finD, hf]
/-- A slice that is only read, as a piece. -/
def pV (a : Option Addr) (cap : Nat) (xs : List Int) (S : Nat → Prop) : Pc := ⟨S, fun H => SlD tI S H a cap xs, fun h hp => hp.frame h⟩
theorem splice_whole {l cs : List Value} (h : l.length = cs.length) : splice l 0 cs = cs := by
  apply List.ext_getElem?
  intro j
  by_cases hj : j < cs.length
  · rw [splice_get (by omega), if_pos ⟨Nat.zero_le _, by omega⟩, Nat.sub_zero]
  · rw [List.getElem?_eq_none (by rw [splice_length (by omega)]; omega), List.getElem?_eq_none (by omega)]
theorem partedB {ca : Option Addr} {cc n : Nat} {cells : List (BitVec 256)} {S : Nat → Prop} {H : Heap} (hn : n = cells.length) (hS : ∀ k, S k → k < H.size) (hc : SlD tB S H ca cc cells) (hl : cells.length ≤ 4194304) :
    FnOk Try.prog 84 #[.slice ca n cc] H fun v H' => Agr (Old H) H H' ∧ ∃ cell ra rc, cell.length = 256 ∧ v = .agg (dfaL cell (.slice ra (atRun cells 256).1.length rc) (.slice none 0 0) (.slice none 0 0)).toArray ∧ SlD tI (Fresh H H') H' ra rc (asI (atRun cells 256).1) := by
  subst hn
  refine (parted_c ca cc cells S H hS hc hl).mono ?_
  rintro v H' ⟨h1, -, ra, rc, rfl, h2⟩
  exact ⟨h1, _, ra, rc, by unfold asI; rw [List.length_map]; exact (atRun_ok cells 256).plen, rfl, h2⟩
theorem bA_append (u v : List Nat) : bA u ++ bA v = bA (u ++ v) := by
  apply text_inj
  rw [bA_data, ByteArray.data_append, Array.toList_append, bA_data, bA_data, List.map_append]
end Go.Proofs.Ytpnnedkpbmilkaa
