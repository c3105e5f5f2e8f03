/- The library's slices.Sort at []int, by the kit's shelf (laid by its tool); as an operation on own slices. -/
import Derived.Test.YtfdlhakfmbdamaaVMore
import Derived.Test.YtfdlhakfmbdamaaVFacts
import Derived.Sort.OwnSortedInts
import Derived.Shelf.Sort.Plain
import Derived.Shelf.Slices.In.SortNone
set_option linter.unusedVariables false
set_option linter.unusedSimpArgs false
set_option maxRecDepth 100000
namespace Go.VC
open Go.Sort
/-- A function that sorts ints. -/
structure SortsI (P : Program) (f : FuncId) : Prop where
  call : ∀ (args : Array Value) (w : World), (callFunc f args).run P w = .ok (.enter f args) w
  some_ : ∀ (blk off cap : Nat) (zs : List Int) (w : World), Holds (Value.int .i64) w blk off zs.toArray → blk < w.heap.size → zs.length < 4611686018427387904 →
    Calls P f #[.slice (some ⟨blk, off, none⟩) zs.length cap] w fun e w' => e = .returned (.tuple #[]) ∧ ∃ n os, w' = grow (putRow (Value.int .i64) (Sort.ahead w n) blk off (zs.mergeSort fun x y => decide (x ≤ y)).toArray) os
  none_ : ∀ (p : Option Addr) (cap : Nat) (w : World), Calls P f #[.slice p 0 cap] w fun e w' => e = .returned (.tuple #[]) ∧ w' = w
theorem reps_ints {S : Nat → Prop} {H : Heap} : ∀ {xs : List Int} {cs : List Value}, (tInt .i64).reps S H cs xs → cs = xs.map (Value.int .i64) ∧ ∀ x ∈ xs, inK .i64 x
  | [], _, h => by cases h; exact ⟨rfl, fun x hx => by cases hx⟩
  | x :: xs, _, h => by
    obtain ⟨c, r, rfl, ⟨rfl, h1⟩, h2⟩ := h
    obtain ⟨rfl, h3⟩ := reps_ints h2
    refine ⟨rfl, fun y hy => ?_⟩
    rcases List.mem_cons.1 hy with rfl | hy
    · exact h1
    · exact h3 y hy
theorem ints_reps {S : Nat → Prop} {H : Heap} : ∀ {xs : List Int}, (∀ x ∈ xs, inK .i64 x) → (tInt .i64).reps S H (xs.map (Value.int .i64)) xs
  | [], _ => rfl
  | x :: xs, h => ⟨[.int .i64 x], xs.map (Value.int .i64), rfl, ⟨rfl, h x (by simp)⟩, ints_reps fun y hy => h y (by simp [hy])⟩
theorem sortI {P : Program} {f : FuncId} {B : Nat → Prop} {H0 H : Heap} {ps : List Pc} {e : TypeId} {a : Option Addr} {n cap : Nat} {xs : List Int} {K : Value → Heap → Prop} (hf : SortsI P f) (st : StB B H0 H ps) (i : Nat) (hp : ps[i]? = some (pS (tInt .i64) e a n cap xs)) (hlen : xs.length < 4611686018427387904)
    (k : ∀ H', StB B H0 H' (ps.set i (pS (tInt .i64) e a n cap (xs.mergeSort fun x y => decide (x ≤ y)))) → K (.tuple #[]) H') : VCall P f #[.slice a n cap] H K := by
  obtain ⟨hown, -⟩ := st.at_ i hp
  obtain ⟨cs, ⟨hcl, hcase⟩, hreps⟩ := hown
  obtain ⟨rfl, hrng⟩ := reps_ints hreps
  refine ⟨fun w hw => ⟨hf.call _ w, ?_⟩⟩
  subst hw
  rcases hcase with ⟨he, hn0⟩ | ⟨b, c, l, he, -, hb, hnc, hcm, hll, htk⟩
  · injection he with e1 e2 e3
    subst e1; subst e2; subst e3
    obtain rfl := List.eq_nil_of_length_eq_zero hn0
    refine (hf.none_ none 0 w).mono ?_
    rintro _ _ ⟨rfl, rfl⟩
    exact ⟨_, rfl, Env.refl _, k _ (by rw [show ([] : List Int).mergeSort (fun x y => decide (x ≤ y)) = [] by simp]; exact st.say i hp _ (st.at_ i hp) (fun k hk => hk))⟩
  · injection he with e1 e2 e3
    subst e1; subst e2; subst e3
    rw [show xs.length * (tInt .i64).size = xs.length from Nat.mul_one _] at htk
    rw [show cap * (tInt .i64).size = cap from Nat.mul_one _] at hll
    have hbl := (Array.getElem?_eq_some_iff.1 hb).1
    have hsl : (xs.mergeSort fun x y => decide (x ≤ y)).length = xs.length := List.length_mergeSort _
    have hH : Holds (Value.int .i64) w b 0 xs.toArray := holds_of_blockI (e := e) (cur := l.toArray) hb (by simpa using htk)
    refine (hf.some_ b 0 cap xs w hH hbl hlen).mono ?_
    rintro _ w' ⟨rfl, n, os, rfl⟩
    have hbw := heap_sortedI (n := n) (os := os) (xs.mergeSort fun x y => decide (x ≤ y)).toArray hb
    obtain ⟨-, -, -, hsz, hoth⟩ := grownBy_sortedI (w := w) (g := b) (n := n) (os := os) (xs.mergeSort fun x y => decide (x ≤ y)).toArray
    refine ⟨_, rfl, ⟨rfl, rfl, rfl⟩, k _ (st.upd i hp (fun j hj => hoth j hj.1 fun e => ?_) _ ⟨⟨_, ⟨?_, .inr ⟨b, cap, (putCells (Value.int .i64) 0 (xs.mergeSort fun x y => decide (x ≤ y)).toArray l.toArray).toList, ?_, Nat.zero_le _, ?_, by omega, hcm, ?_, ?_⟩⟩, ints_reps fun x hx => hrng x (List.mem_mergeSort.1 hx)⟩, fun k hk => hk.elim⟩ (fun k hk => .inl hk) (fun k hk => ?_) hsz)⟩
    · cases e
      exact hj.2 (.inl ⟨0, _, _, rfl⟩)
    · rw [List.length_map]; exact (Nat.mul_one _).symm
    · rw [hsl]
    · show _ = _
      rw [hbw]
    · rw [Array.length_toList]
      unfold putCells
      rw [Array.size_mapIdx]
      simp only [List.size_toArray, hll]
      exact (Nat.mul_one _).symm
    · rw [show (xs.mergeSort fun x y => decide (x ≤ y)).length * (tInt .i64).size = (xs.mergeSort fun x y => decide (x ≤ y)).length from Nat.mul_one _]
      exact take_putCellsI l.toArray _ (by rw [hsl]; simpa [hll] using hnc)
    · have h1 := (st.in_ i hp hk).2
      exact Nat.lt_of_lt_of_le h1 hsz
end Go.VC
namespace Go.Proofs.Ytfdlhakfmbdamaa
open Go.VC
def sort_ren : Go.Shelf.Ren := ⟨fun | 189 => 16 | 125 => 18 | 257 => 17 | 128 => 28 | 129 => 29 | 294 => 19 | 295 => 20 | 296 => 21 | 297 => 22 | 298 => 23 | 299 => 24 | 216 => 25 | 300 => 26 | 301 => 27 | 328 => 30 | 329 => 31 | 330 => 32 | 331 => 33 | 332 => 34 | 215 => 35 | 343 => 36 | n => n, fun | 28 => 24 | 3 => 3 | 46 => 39 | 0 => 0 | 51 => 50 | 53 => 52 | 4 => 4 | 183 => 42 | 182 => 41 | 131 => 47 | 5 => 5 | 9 => 9 | 218 => 53 | 222 => 57 | 228 => 60 | 229 => 61 | n => n, fun | n => n⟩
theorem lays189 : Go.Proofs.Lays.n189 Try.prog sort_ren := {
  mixed := by kernel_rfl
  f125 := Try.func18.trans (congrArg some (by kernel_rfl))
  f128 := Try.func28.trans (congrArg some (by kernel_rfl))
  f129 := Try.func29.trans (congrArg some (by kernel_rfl))
  f189 := Try.func16.trans (congrArg some (by kernel_rfl))
  f215 := Try.func35.trans (congrArg some (by kernel_rfl))
  f216 := Try.func25.trans (congrArg some (by kernel_rfl))
  f257 := Try.func17.trans (congrArg some (by kernel_rfl))
  f294 := Try.func19.trans (congrArg some (by kernel_rfl))
  f295 := Try.func20.trans (congrArg some (by kernel_rfl))
  f296 := Try.func21.trans (congrArg some (by kernel_rfl))
  f297 := Try.func22.trans (congrArg some (by kernel_rfl))
  f298 := Try.func23.trans (congrArg some (by kernel_rfl))
  f299 := Try.func24.trans (congrArg some (by kernel_rfl))
  f300 := Try.func26.trans (congrArg some (by kernel_rfl))
  f301 := Try.func27.trans (congrArg some (by kernel_rfl))
  f328 := Try.func30.trans (congrArg some (by kernel_rfl))
  f329 := Try.func31.trans (congrArg some (by kernel_rfl))
  f330 := Try.func32.trans (congrArg some (by kernel_rfl))
  f331 := Try.func33.trans (congrArg some (by kernel_rfl))
  f332 := Try.func34.trans (congrArg some (by kernel_rfl))
  f343 := Try.func36.trans (congrArg some (by kernel_rfl))
  t0 := Try.underlying0
  a0 := Try.isAgg0
  z0 := Try.sizeOf0
  v0 := Try.zeroValue0
  t3 := Try.underlying3
  a3 := Try.isAgg3
  z3 := Try.sizeOf3
  v3 := Try.zeroValue3
  t4 := Try.underlying4
  a4 := Try.isAgg4
  z4 := Try.sizeOf4
  v4 := Try.zeroValue4
  t5 := Try.underlying5
  a5 := Try.isAgg5
  z5 := Try.sizeOf5
  v5 := Try.zeroValue5
  t9 := Try.underlying9
  a9 := Try.isAgg9
  z9 := Try.sizeOf9
  v9 := Try.zeroValue9
  t28 := Try.underlying24
  a28 := Try.isAgg24
  z28 := Try.sizeOf24
  v28 := Try.zeroValue24
  t46 := Try.underlying39
  a46 := Try.isAgg39
  z46 := Try.sizeOf39
  v46 := Try.zeroValue39
  t51 := Try.underlying50
  a51 := Try.isAgg50
  z51 := Try.sizeOf50
  v51 := Try.zeroValue50
  t53 := Try.underlying52
  a53 := Try.isAgg52
  z53 := Try.sizeOf52
  v53 := Try.zeroValue52
  t131 := Try.underlying47
  a131 := Try.isAgg47
  z131 := Try.sizeOf47
  v131 := Try.zeroValue47
  t182 := Try.underlying41
  a182 := Try.isAgg41
  z182 := Try.sizeOf41
  v182 := Try.zeroValue41
  t183 := Try.underlying42
  a183 := Try.isAgg42
  z183 := Try.sizeOf42
  v183 := Try.zeroValue42
  t218 := Try.underlying53
  a218 := Try.isAgg53
  z218 := Try.sizeOf53
  v218 := Try.zeroValue53
  t222 := Try.underlying57
  a222 := Try.isAgg57
  z222 := Try.sizeOf57
  v222 := Try.zeroValue57
  t228 := Try.underlying60
  a228 := Try.isAgg60
  z228 := Try.sizeOf60
  v228 := Try.zeroValue60
  t229 := Try.underlying61
  a229 := Try.isAgg61
  z229 := Try.sizeOf61
  v229 := Try.zeroValue61 }
theorem sorts_ : SortsI Try.prog 16 where
  call := Try.call16
  some_ := fun blk off cap zs w hH hblk hsz => Any.slices_Sort_int lays189 blk off cap zs w hH hblk hsz
  none_ := fun p cap w => Any.slices_Sort_int_none lays189 p cap w
end Go.Proofs.Ytfdlhakfmbdamaa
