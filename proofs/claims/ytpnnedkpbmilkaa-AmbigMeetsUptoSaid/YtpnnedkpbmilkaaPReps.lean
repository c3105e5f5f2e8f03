/- ambig.reps: the walk. -/
import Derived.Test.YtpnnedkpbmilkaaPAtm
import Derived.Test.YtpnnedkpbmilkaaPCOk
set_option linter.unusedVariables false
set_option linter.unusedSimpArgs false
set_option maxRecDepth 100000
namespace Go.VC
/-- Any value of one cell. -/
def tV : Ty Value where
  size := 1
  rep _ _ cs x := cs = [x]
  len h := by rw [h]; rfl
  frame h _ := h
  mono h _ := h
section
variable {α : Type} {T : Ty α} {e : TypeId} {a : Option Addr} {n cap : Nat} {xs : List α} {B : Nat → Prop} {H0 H : Heap} {ps : List Pc}
/-- One own slice appended to another. -/
theorem appSS {P : Program} {t ty by_ : Nat} {z : Value} {a2 : Option Addr} {n2 cap2 : Nat} {e2 : TypeId} {ys : List α} {K : Value → Heap → Prop} (st : StB B H0 H ps) (i j : Nat) (ht : SlT P t e T.size by_ z) (hp : ps[i]? = some (pS T e a n cap xs)) (hq : ps[j]? = some (pS T e2 a2 n2 cap2 ys))
    (hne : 0 < ys.length) (h1 : T.Ones) (h63 : xs.length + ys.length ≤ 4194304) (hby : by_ ≤ 1024)
    (k : ∀ a' cap' H', StB B H0 H' (ps.set i (pS T e a' (xs.length + ys.length) cap' (xs ++ ys))) → Agr (fun k => k < H.size ∧ ¬ slB (.slice a n cap) k) H H' → K (.slice a' (xs.length + ys.length) cap') H') :
    VEff P (Builtin.append_ #[t, t] ty [.slice a n cap, .slice a2 n2 cap2].toArray) H K := by
  obtain ⟨cs, ⟨h0, h2⟩, h3⟩ := (st.at_ j hq).1
  have hn2 := st.len j hq
  rcases h2 with ⟨h2, h4⟩ | ⟨b, c, l, h2, h4, h5, h6, h7, h8, h9⟩
  · omega
  · injection h2 with g1 g2 g3
    subst g1; subst g3
    refine appO st i ht hp (q := b) (o := 0) (ds := cs) (h5.cells fun j v hv => ?_) h3 hn2 (h1.reps h3) h63 hby k
    rw [← h9] at hv
    rw [Nat.zero_add]
    rw [List.getElem?_take] at hv
    split at hv
    · exact hv
    · cases hv
end
end Go.VC
namespace Go.Proofs.Ytpnnedkpbmilkaa
open Go.VC
attribute [local irreducible] mRun gRun atRun
theorem cells_pos {o : Option AM} {ls : List Nat} (h : CellsOk o ls) : 0 < (cellsM o).length := by
  obtain ⟨k, c, hk, -⟩ := h.part 0 (by decide)
  exact Nat.lt_of_le_of_lt (Nat.zero_le k) (List.getElem?_eq_some_iff.1 hk).1
theorem cells_le {S : Nat → Prop} {H : Heap} {v : Value} {o : Option AM} (h : AutoV S H v o) : (cellsM o).length ≤ 256 := by
  cases o with
  | none => decide
  | some A => obtain ⟨_, _, _, hok, _⟩ := h; exact hok.sl
def allCells (os : List (Value × Option AM)) : List (BitVec 256) := os.flatMap fun x => cellsM x.2

set_option maxHeartbeats 8000000 in
theorem reps_c {S : Nat → Prop} {H : Heap} {pa : Option Addr} {pc : Nat} {os : List (Value × Option AM)} (hS : ∀ k, S k → k < H.size) (hp : SlD tV S H pa pc (os.map (·.1))) (hos : os.length ≤ 16) (hv : ∀ x ∈ os, AutoV S H x.1 x.2 ∧ ∃ ls, CellsOk x.2 ls) :
    FnOk Try.prog 67 #[.slice pa os.length pc] H fun v H' => Agr (Old H) H H' ∧ SlO (tInt .u8) none_ H' H.size 5 v ((repsM (allCells os)).map fun (b : Nat) => (b : Int)) := by
  refine FnOk.of_vc Try.func67 rfl (Try.call67 _) ?_
  (conv => whnf)
  refine VLoop.mk [3, 13] (fun x : Nat × List (BitVec 256) × Option Addr × Nat => match x with | (k, cs, a, c) => [.slice a cs.length c, .int .i64 (k : Int)])
    (fun x H1 => x.1 ≤ os.length ∧ x.2.1 = allCells (os.take x.1) ∧ x.2.1.length ≤ x.1 * 256 ∧ St H H1 [pS tSet 41 x.2.2.1 x.2.1.length x.2.2.2 x.2.1]) (fun x _ => os.length - x.1) ?_ ?_
  · (conv => whnf)
    exact ⟨(0, [], none, 0), rfl, by simp, rfl, by simp, StB.nils (St.nil H) tSet 41⟩
  · rintro ⟨k, cs, a, c⟩ H1 junk ⟨hk, hcs, hcl, st1⟩
    simp only at hk hcs hcl st1
    (conv => whnf); refine VIte.mk (fun hz => ?_) (fun hz => ?_) <;> simp only [decide_eq_true_eq, decide_eq_false_iff_not] at hz
    · obtain ⟨x, hx⟩ := get_some (l := os) (k := k) (by omega)
      obtain ⟨hva, ls, hco⟩ := hv x (List.mem_of_getElem? hx)
      have hpos := cells_pos hco
      have hle := cells_le hva
      have hnext : allCells (os.take (k + 1)) = cs ++ cellsM x.2 := by
        rw [hcs]; exact take_flat _ hx
      (conv => whnf); refine ixrn (i := k) (x := x.1) sl125 (hp.frame (st1.old.mono hS)) (by simp) (by rw [List.getElem?_map, hx]; rfl) rfl ?_
      rintro b2 o2 cs2 hSb2 hcells2 rfl
      (conv => whnf); refine ld1 ct31 hcells2.one trivial ?_
      (conv => whnf); refine VCall.mk (cells_o (S := S) (fun k hk => st1.up (hS k hk)) (hva.frame (st1.old.mono hS))) ?_
      rintro _ H3 ⟨ha3, hs3, hc3⟩
      obtain ⟨a3, c3, rfl, st3⟩ := st1.got ha3 hc3
      (conv => whnf); refine appSS st3 0 1 sl29 rfl rfl hpos tSet_ones (by omega) (by decide) fun a' c' H4 st4 _ => ?_
      (conv => whnf); rw [w64 (x := (k : Int) + 1) (by omega) (by omega)]
      refine ⟨rfl, (k + 1, cs ++ cellsM x.2, a', c'), by simp, ⟨by simp only; omega, hnext.symm, by simp only [List.length_append]; omega, ?_⟩, by simp only; omega⟩
      simp only [List.length_append]
      exact st4.pick [0] (by decide)
    · obtain rfl : k = os.length := by omega
      rw [List.take_length] at hcs
      have hview := st1.view 0 rfl
      have hrl := reps_len cs
      have hM : repsM cs = (atomsM cs).map fun c => (nextM c 0).1 := rfl
      (conv => whnf); refine VCall.mk (clsAtoms_c (S := Old H1) (fun k hk => hk) hview (by omega)) ?_
      rintro _ H5 ⟨ha5, a5, c5, rfl, h5⟩
      have st5 := st1.call ha5
      rw [← hcs]
      rw [hM]
      generalize atomsM cs = at_ at *
      (conv => whnf)
      refine VLoop.mk [6, 25] (fun x : Nat × List Int × Option Addr × Nat => match x with | (k, l, a, c) => [.slice a l.length c, .int .i64 (k : Int)])
        (fun x H6 => x.1 ≤ at_.length ∧ x.2.1 = ((at_.take x.1).map fun c => (nextM c 0).1).map (fun (b : Nat) => (b : Int)) ∧ x.2.1.length = x.1 ∧ St H5 H6 [pS (tInt .u8) 5 x.2.2.1 x.2.1.length x.2.2.2 x.2.1]) (fun x _ => at_.length - x.1) ?_ ?_
      · (conv => whnf)
        exact ⟨(0, [], none, 0), rfl, by simp, rfl, rfl, StB.nils (St.nil H5) (tInt .u8) 5⟩
      · rintro ⟨k, l, a6, c6⟩ H6 junk6 ⟨hk, hl, hll, st6⟩
        simp only at hk hl hll st6
        (conv => whnf); refine VIte.mk (fun hz2 => ?_) (fun hz2 => ?_) <;> simp only [decide_eq_true_eq, decide_eq_false_iff_not] at hz2
        · obtain ⟨x, hx⟩ := get_some (l := at_) (k := k) (by omega)
          have hn8 := nextM_lt x 0
          have hnext : ((at_.take (k + 1)).map fun c => (nextM c 0).1).map (fun (b : Nat) => (b : Int)) = l ++ [((nextM x 0).1 : Int)] := by
            rw [hl, take_succ_snoc hx, List.map_append, List.map_append]; rfl
          (conv => whnf); refine ixr (i := k) sl29 (h5.frame st6.old) hx rfl ?_
          rintro b7 o7 cs7 hSb7 hcells7 rfl
          (conv => whnf); refine ldN (cs := setL x) ag41 hcells7 trivial ?_
          (conv => whnf); refine valloc (setV 0) (setL 0) rfl rfl ?_
          intro p8 H8 hp8 hs8 hb8 ha8
          have st8 := st6.box hp8 hs8 hb8 ha8
          (conv => whnf); refine stNB (cs := setL x) st8 1 rfl rfl (show 0 + 4 ≤ 4 by decide) rfl fun H9 st9 => ?_
          rw [spliceS] at st9
          (conv => whnf); refine ldN (cs := setL x) ag41 ((st9.blk 1 rfl).cells fun j v hv => by rw [Nat.zero_add]; exact hv) trivial ?_
          (conv => whnf); refine pures (next_p x 0 (by decide) H9) fun H10 ha10 => ?_
          have st10 := st9.call ha10
          (conv => whnf); refine vbuild1 sl107 [.int .u8 ((nextM x 0).1 : Int)] rfl rfl (by decide) (by decide) ?_
          intro q11 H11 hq11 hs11 hb11 ha11
          have st11 := st10.skip hq11 ha11
          (conv => whnf); refine app1 st11 0 sl107 rfl hb11 ⟨rfl, inU8 hn8⟩ rfl (by omega) (by decide) fun a' c' H12 st12 ha12 => ?_
          (conv => whnf); rw [w64 (x := (k : Int) + 1) (by omega) (by omega)]
          refine ⟨rfl, (k + 1, l ++ [((nextM x 0).1 : Int)], a', c'), by simp, ⟨by simp only; omega, hnext.symm, by simp [hll], ?_⟩, by simp only; omega⟩
          simp only [List.length_append, List.length_singleton]
          exact st12.pick [0] (by decide)
        · obtain rfl : k = at_.length := by omega
          rw [List.take_length] at hl
          (conv => whnf)
          have := st6.own 0 rfl
          rw [← hl]
          exact ⟨st5.old.trans (st6.old.mono fun k hk => st5.up hk), this.lower st5.size⟩
end Go.Proofs.Ytpnnedkpbmilkaa
