/- The law WordsLeasts: its walk. -/
import Derived.Test.YtkgmhkcncemmkaaPWrd8
set_option linter.unusedVariables false
set_option linter.unusedSimpArgs false
set_option maxRecDepth 100000
namespace Go.VC
theorem vleqs {P : Program} {t : TypeId} {x y : Operand} {a b : ByteArray} {S : Nat → Prop} {H : Heap} {K : Value → Prop} (k : K (.bool (Op.bytesLess a.toList b.toList || a.toList == b.toList))) : VDet P (do eqGuard .leq t x y (.string a) (.string b); binOp .leq t (.string a) (.string b)) S H K := by
  refine VDet.mk _ (fun w _ => ?_) k
  simp [run_eqGuard_string, binOp, Op.stringOp]
end Go.VC
namespace Go.Proofs.Ytkgmhkcncemmkaa
open Go.VC
attribute [local irreducible] mRun gRun atRun

/-- What the program's automaton's functions need of an automaton in memory. -/
theorem stepIn_of {S : Nat → Prop} {H : Heap} {v : Value} {o : Option AM} (h : AutoV S H v o) : StepIn o := fun q b h0 h1 hb => by
  have := stN_le h
  obtain ⟨n, rfl⟩ := Int.eq_ofNat_of_zero_le h0
  exact step_rng h (by omega) hb
theorem ok_of {S : Nat → Prop} {H : Heap} {v : Value} {o : Option AM} (h : AutoV S H v o) : ∀ A, o = some A → A.Ok := by
  rintro A rfl
  obtain ⟨pb, rfl, hown, hok, -⟩ := h
  exact hok
set_option maxHeartbeats 4000000 in
theorem wordsLeasts_p (v : Value) (cells : List (BitVec 256)) (next : List (List Int)) (final : List Bool) (s : ByteArray) (S : Nat → Prop) (H : Heap) (ht : TabIn S H v cells next final) (hs : s.size ≤ 1048576) :
    Pure Try.prog 4 #[v, .string s] H (.bool true) := by
  refine FnOk.of_vc Try.func4 rfl (Try.call4 _) ?_
  (conv => whnf); refine tab_box ht fun l hl hv => ?_
  intro p H1 hp hs1 hb1 ha1
  have st1 := (St.nil H).box hp hs1 hb1 ha1
  (conv => whnf); refine pures (speaks08_p H1) fun H3 ha3 => ?_
  have st3 := st1.call ha3
  (conv => whnf); refine tab_load hl hv (st3.blk 0 rfl) trivial ?_
  (conv => whnf); refine VCall.mk (auto08_c v cells next final S H3 (ht.frame st3.old)) ?_
  rintro va H4 ⟨ha4, hs4, hva⟩
  have st4 := st3.call ha4
  obtain ⟨ls, hc⟩ := cells_ok cells next final
  have hoa := both_of cells next final
  generalize hoe : autoOf cells next final = oa at *
  generalize hAe : dfaOf cells next final = A at *
  have hst := stepIn_of hva
  have hle := stN_le hva
  have hal := alive_least hc hst hle.1 (ok_of hva)
  have hlaw := (least_law hst hle.1).2 s
  (conv => whnf); refine pures (least_p (S := Old H4) (fun k hk => hk) (hva.mono fun k hk => hk.2) hc) fun H5 ha5 => ?_
  have st5 := st4.call ha5
  (conv => whnf); refine tab_load hl hv (st5.blk 0 rfl) trivial ?_
  (conv => whnf); refine VCall.mk (made_c v cells next final S H5 (ht.frame st5.old)) ?_
  rintro vA H6 ⟨ha6, hs6, hA⟩
  have st6 := st5.call ha6
  rw [hAe] at hA
  (conv => whnf); refine pures (refleast_p (S := Old H6) (fun k hk => hk) (hA.mono fun k hk => hk.2) hoa) fun H7 ha7 => ?_
  have st7 := st6.call ha7
  have h47 := (ha5.trans (ha6.mono fun k hk => old_lt ha5 hk)).trans (ha7.mono fun k hk => old_lt (ha5.trans (ha6.mono fun k hk => old_lt ha5 hk)) hk)
  have d1 : (((leastM oa).getD ⟨#[]⟩).toList == ((leastM oa).getD ⟨#[]⟩).toList) = true := beq_self_eq_true _
  have d2 : ((leastM oa).isSome == (leastM oa).isSome) = true := beq_self_eq_true _
  (conv => whnf); rw [d1]
  (conv => whnf); refine bneq_b Try.underlying4 ?_
  rw [d2]
  (conv => whnf); refine pures (empty_p ((hva.mono (S' := Old H4) fun k hk => hk.2).frame h47)) fun H8 ha8 => ?_
  have st8 := st7.call ha8
  have h48 := h47.trans (ha8.mono fun k hk => old_lt h47 hk)
  rw [hal]
  have d3 : ((leastM oa).isSome == !(leastM oa).isSome) = false := by cases (leastM oa).isSome <;> rfl
  (conv => whnf); refine beq_b Try.underlying4 ?_
  rw [d3]
  (conv => whnf); refine pures (accepts_p (S := Old H4) (fun k hk => old_lt h48 hk) ((hva.mono (S' := Old H4) fun k hk => hk.2).frame h48) (by unfold maxLen; omega)) fun H9 ha9 => ?_
  have st9 := st8.call ha9
  cases hacc : acceptsM oa s with
  | false =>
    (conv => whnf)
    exact ⟨rfl, st9.old⟩
  | true =>
    obtain ⟨w, hw, hle2⟩ := hlaw hacc
    rw [hw]
    have hwl : w.data.toList.length = w.size := Array.length_toList
    have hsl : s.data.toList.length = s.size := Array.length_toList
    by_cases hlt : w.size < s.size
    · have d4 : decide ((((some w).getD ⟨#[]⟩).size : Int) < (s.size : Int)) = true := decide_eq_true (show (w.size : Int) < (s.size : Int) by omega)
      (conv => whnf); rw [d4]
      (conv => whnf)
      exact ⟨rfl, st9.old⟩
    · have d4 : decide ((((some w).getD ⟨#[]⟩).size : Int) < (s.size : Int)) = false := decide_eq_false (show ¬ (w.size : Int) < (s.size : Int) by omega)
      (conv => whnf); rw [d4]
      unfold le2 lt2 at hle2
      have heq : w.size = s.size := by
        rcases hle2 with (h | ⟨h, -⟩) | h
        · omega
        · omega
        · rw [← hwl, ← hsl, h]
      have d5 : ((((some w).getD ⟨#[]⟩).size : Int) == (s.size : Int)) = true := by show ((w.size : Int) == (s.size : Int)) = true; rw [heq]; exact beq_self_eq_true _
      have d6 : (Op.bytesLess ((some w).getD ⟨#[]⟩).toList s.toList || ((some w).getD ⟨#[]⟩).toList == s.toList) = true := by
        show (Op.bytesLess w.toList s.toList || w.toList == s.toList) = true
        rw [text_beq, ByteArray.toList_eq, ByteArray.toList_eq]
        rcases hle2 with (h | ⟨-, h⟩) | h
        · omega
        · rw [h]; rfl
        · rw [decide_eq_true h, Bool.or_true]
      (conv => whnf); rw [d5]
      (conv => whnf); refine vleqs ?_
      rw [d6]
      (conv => whnf)
      exact ⟨rfl, st9.old⟩
end Go.Proofs.Ytkgmhkcncemmkaa
