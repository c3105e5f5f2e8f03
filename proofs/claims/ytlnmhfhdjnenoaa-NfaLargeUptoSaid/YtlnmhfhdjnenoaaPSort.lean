/- The library's slices.Sort at []int, by the kit's shelf (laid by its tool); as an operation on own slices. -/
import Derived.Test.YtlnmhfhdjnenoaaVMore
import Derived.Test.YtlnmhfhdjnenoaaVFacts
import Derived.Sort.OwnSortedInts
import Derived.Shelf.Sort.Plain
import Derived.Shelf.Slices.In.SortNone
set_option linter.unusedVariables false
set_option linter.unusedSimpArgs false
set_option maxRecDepth 100000
namespace Go.VC
open Go.Sort
/-- A function that sorts ints. -/
structure SortsI (P : Program) (f : FuncId) : Prop where
  call : ∀ (args : Array Value) (w : World), (callFunc f args).run P w = .ok (.enter f args) w
  some_ : ∀ (blk off cap : Nat) (zs : List Int) (w : World), Holds (Value.int .i64) w blk off zs.toArray → blk < w.heap.size → zs.length < 4611686018427387904 →
    Calls P f #[.slice (some ⟨blk, off, none⟩) zs.length cap] w fun e w' => e = .returned (.tuple #[]) ∧ ∃ n os, w' = grow (putRow (Value.int .i64) (Sort.ahead w n) blk off (zs.mergeSort fun x y => decide (x ≤ y)).toArray) os
  none_ : ∀ (p : Option Addr) (cap : Nat) (w : World), Calls P f #[.slice p 0 cap] w fun e w' => e = .returned (.tuple #[]) ∧ w' = w
theorem reps_ints {S : Nat → Prop} {H : Heap} : ∀ {xs : List Int} {cs : List Value}, (tInt .i64).reps S H cs xs → cs = xs.map (Value.int .i64) ∧ ∀ x ∈ xs, inK .i64 x
  | [], _, h => by cases h; exact ⟨rfl, fun x hx => by cases hx⟩
  | x :: xs, _, h => by
    obtain ⟨c, r, rfl, ⟨rfl, h1⟩, h2⟩ := h
    obtain ⟨rfl, h3⟩ := reps_ints h2
    refine ⟨rfl, fun y hy => ?_⟩
    rcases List.mem_cons.1 hy with rfl | hy
    · exact h1
    · exact h3 y hy
theorem ints_reps {S : Nat → Prop} {H : Heap} : ∀ {xs : List Int}, (∀ x ∈ xs, inK .i64 x) → (tInt .i64).reps S H (xs.map (Value.int .i64)) xs
  | [], _ => rfl
  | x :: xs, h => ⟨[.int .i64 x], xs.map (Value.int .i64), rfl, ⟨rfl, h x (by simp)⟩, ints_reps fun y hy => h y (by simp [hy])⟩
theorem sortI {P : Program} {f : FuncId} {B : Nat → Prop} {H0 H : Heap} {ps : List Pc} {e : TypeId} {a : Option Addr} {n cap : Nat} {xs : List Int} {K : Value → Heap → Prop} (hf : SortsI P f) (st : StB B H0 H ps) (i : Nat) (hp : ps[i]? = some (pS (tInt .i64) e a n cap xs)) (hlen : xs.length < 4611686018427387904)
    (k : ∀ H', StB B H0 H' (ps.set i (pS (tInt .i64) e a n cap (xs.mergeSort fun x y => decide (x ≤ y)))) → K (.tuple #[]) H') : VCall P f #[.slice a n cap] H K := by
  obtain ⟨hown, -⟩ := st.at_ i hp
  obtain ⟨cs, ⟨hcl, hcase⟩, hreps⟩ := hown
  obtain ⟨rfl, hrng⟩ := reps_ints hreps
  refine ⟨fun w hw => ⟨hf.call _ w, ?_⟩⟩
  subst hw
  rcases hcase with ⟨he, hn0⟩ | ⟨b, c, l, he, -, hb, hnc, hcm, hll, htk⟩
  · injection he with e1 e2 e3
    subst e1; subst e2; subst e3
    obtain rfl := List.eq_nil_of_length_eq_zero hn0
    refine (hf.none_ none 0 w).mono ?_
    rintro _ _ ⟨rfl, rfl⟩
    exact ⟨_, rfl, Env.refl _, k _ (by rw [show ([] : List Int).mergeSort (fun x y => decide (x ≤ y)) = [] by simp]; exact st.say i hp _ (st.at_ i hp) (fun k hk => hk))⟩
  · injection he with e1 e2 e3
    subst e1; subst e2; subst e3
    rw [show xs.length * (tInt .i64).size = xs.length from Nat.mul_one _] at htk
    rw [show cap * (tInt .i64).size = cap from Nat.mul_one _] at hll
    have hbl := (Array.getElem?_eq_some_iff.1 hb).1
    have hsl : (xs.mergeSort fun x y => decide (x ≤ y)).length = xs.length := List.length_mergeSort _
    have hH : Holds (Value.int .i64) w b 0 xs.toArray := holds_of_blockI (e := e) (cur := l.toArray) hb (by simpa using htk)
    refine (hf.some_ b 0 cap xs w hH hbl hlen).mono ?_
    rintro _ w' ⟨rfl, n, os, rfl⟩
    have hbw := heap_sortedI (n := n) (os := os) (xs.mergeSort fun x y => decide (x ≤ y)).toArray hb
    obtain ⟨-, -, -, hsz, hoth⟩ := grownBy_sortedI (w := w) (g := b) (n := n) (os := os) (xs.mergeSort fun x y => decide (x ≤ y)).toArray
    refine ⟨_, rfl, ⟨rfl, rfl, rfl⟩, k _ (st.upd i hp (fun j hj => hoth j hj.1 fun e => ?_) _ ⟨⟨_, ⟨?_, .inr ⟨b, cap, (putCells (Value.int .i64) 0 (xs.mergeSort fun x y => decide (x ≤ y)).toArray l.toArray).toList, ?_, Nat.zero_le _, ?_, by omega, hcm, ?_, ?_⟩⟩, ints_reps fun x hx => hrng x (List.mem_mergeSort.1 hx)⟩, fun k hk => hk.elim⟩ (fun k hk => .inl hk) (fun k hk => ?_) hsz)⟩
    · cases e
      exact hj.2 (.inl ⟨0, _, _, rfl⟩)
    · rw [List.length_map]; exact (Nat.mul_one _).symm
    · rw [hsl]
    · show _ = _
      rw [hbw]
    · rw [Array.length_toList]
      unfold putCells
      rw [Array.size_mapIdx]
      simp only [List.size_toArray, hll]
      exact (Nat.mul_one _).symm
    · rw [show (xs.mergeSort fun x y => decide (x ≤ y)).length * (tInt .i64).size = (xs.mergeSort fun x y => decide (x ≤ y)).length from Nat.mul_one _]
      exact take_putCellsI l.toArray _ (by rw [hsl]; simpa [hll] using hnc)
    · have h1 := (st.in_ i hp hk).2
      exact Nat.lt_of_lt_of_le h1 hsz
end Go.VC
namespace Go.Proofs.Ytlnmhfhdjnenoaa
open Go.VC
def sort_ren : Go.Shelf.Ren := ⟨fun | 189 => 45 | 125 => 56 | 257 => 55 | 128 => 66 | 129 => 67 | 294 => 58 | 295 => 59 | 296 => 60 | 297 => 61 | 298 => 62 | 299 => 63 | 216 => 47 | 300 => 64 | 301 => 65 | 328 => 68 | 329 => 69 | 330 => 70 | 331 => 71 | 332 => 72 | 215 => 57 | 343 => 73 | n => n, fun | 28 => 47 | 3 => 3 | 46 => 107 | 0 => 0 | 51 => 135 | 53 => 57 | 4 => 4 | 183 => 129 | 182 => 128 | 131 => 98 | 5 => 5 | 9 => 9 | 218 => 137 | 222 => 141 | 228 => 143 | 229 => 105 | n => n, fun | n => n⟩
theorem lays189 : Go.Proofs.Lays.n189 Try.prog sort_ren := {
  mixed := by kernel_rfl
  f125 := Try.func56.trans (congrArg some (by kernel_rfl))
  f128 := Try.func66.trans (congrArg some (by kernel_rfl))
  f129 := Try.func67.trans (congrArg some (by kernel_rfl))
  f189 := Try.func45.trans (congrArg some (by kernel_rfl))
  f215 := Try.func57.trans (congrArg some (by kernel_rfl))
  f216 := Try.func47.trans (congrArg some (by kernel_rfl))
  f257 := Try.func55.trans (congrArg some (by kernel_rfl))
  f294 := Try.func58.trans (congrArg some (by kernel_rfl))
  f295 := Try.func59.trans (congrArg some (by kernel_rfl))
  f296 := Try.func60.trans (congrArg some (by kernel_rfl))
  f297 := Try.func61.trans (congrArg some (by kernel_rfl))
  f298 := Try.func62.trans (congrArg some (by kernel_rfl))
  f299 := Try.func63.trans (congrArg some (by kernel_rfl))
  f300 := Try.func64.trans (congrArg some (by kernel_rfl))
  f301 := Try.func65.trans (congrArg some (by kernel_rfl))
  f328 := Try.func68.trans (congrArg some (by kernel_rfl))
  f329 := Try.func69.trans (congrArg some (by kernel_rfl))
  f330 := Try.func70.trans (congrArg some (by kernel_rfl))
  f331 := Try.func71.trans (congrArg some (by kernel_rfl))
  f332 := Try.func72.trans (congrArg some (by kernel_rfl))
  f343 := Try.func73.trans (congrArg some (by kernel_rfl))
  t0 := Try.underlying0
  a0 := Try.isAgg0
  z0 := Try.sizeOf0
  v0 := Try.zeroValue0
  t3 := Try.underlying3
  a3 := Try.isAgg3
  z3 := Try.sizeOf3
  v3 := Try.zeroValue3
  t4 := Try.underlying4
  a4 := Try.isAgg4
  z4 := Try.sizeOf4
  v4 := Try.zeroValue4
  t5 := Try.underlying5
  a5 := Try.isAgg5
  z5 := Try.sizeOf5
  v5 := Try.zeroValue5
  t9 := Try.underlying9
  a9 := Try.isAgg9
  z9 := Try.sizeOf9
  v9 := Try.zeroValue9
  t28 := Try.underlying47
  a28 := Try.isAgg47
  z28 := Try.sizeOf47
  v28 := Try.zeroValue47
  t46 := Try.underlying107
  a46 := Try.isAgg107
  z46 := Try.sizeOf107
  v46 := Try.zeroValue107
  t51 := Try.underlying135
  a51 := Try.isAgg135
  z51 := Try.sizeOf135
  v51 := Try.zeroValue135
  t53 := Try.underlying57
  a53 := Try.isAgg57
  z53 := Try.sizeOf57
  v53 := Try.zeroValue57
  t131 := Try.underlying98
  a131 := Try.isAgg98
  z131 := Try.sizeOf98
  v131 := Try.zeroValue98
  t182 := Try.underlying128
  a182 := Try.isAgg128
  z182 := Try.sizeOf128
  v182 := Try.zeroValue128
  t183 := Try.underlying129
  a183 := Try.isAgg129
  z183 := Try.sizeOf129
  v183 := Try.zeroValue129
  t218 := Try.underlying137
  a218 := Try.isAgg137
  z218 := Try.sizeOf137
  v218 := Try.zeroValue137
  t222 := Try.underlying141
  a222 := Try.isAgg141
  z222 := Try.sizeOf141
  v222 := Try.zeroValue141
  t228 := Try.underlying143
  a228 := Try.isAgg143
  z228 := Try.sizeOf143
  v228 := Try.zeroValue143
  t229 := Try.underlying105
  a229 := Try.isAgg105
  z229 := Try.sizeOf105
  v229 := Try.zeroValue105 }
theorem sorts_ : SortsI Try.prog 45 where
  call := Try.call45
  some_ := fun blk off cap zs w hH hblk hsz => Any.slices_Sort_int lays189 blk off cap zs w hH hblk hsz
  none_ := fun p cap w => Any.slices_Sort_int_none lays189 p cap w
end Go.Proofs.Ytlnmhfhdjnenoaa
