/- The library's slices.Sort at []string, by the kit's shelf (laid by its tool); as an operation on own slices. -/
import Derived.Test.YtfdlhakfmbdamaaDoorVMore
import Derived.Test.YtfdlhakfmbdamaaDoorVFacts
import Derived.Sort.OwnSorted
import Derived.Shelf.Sort.Plain
import Derived.Shelf.Slices.In.SortNone
set_option linter.unusedVariables false
set_option linter.unusedSimpArgs false
set_option maxRecDepth 100000
namespace Go.VC
open Go.Sort Go.Proofs Go.RowKit
/-- A function that sorts texts. -/
structure SortsS (P : Program) (f : FuncId) : Prop where
  call : ∀ (args : Array Value) (w : World), (callFunc f args).run P w = .ok (.enter f args) w
  some_ : ∀ (blk off cap : Nat) (zs : List (List UInt8)) (w : World), Holds encStr w blk off zs.toArray → blk < w.heap.size → zs.length < 4611686018427387904 →
    Calls P f #[.slice (some ⟨blk, off, none⟩) zs.length cap] w fun e w' => e = .returned (.tuple #[]) ∧ ∃ n os, w' = grow (putRow encStr (Sort.ahead w n) blk off (zs.mergeSort fun x y => decide (x ≤ y)).toArray) os
  none_ : ∀ (p : Option Addr) (cap : Nat) (w : World), Calls P f #[.slice p 0 cap] w fun e w' => e = .returned (.tuple #[]) ∧ w' = w
def txL (x : ByteArray) : List UInt8 := x.data.toList
def leT (x y : ByteArray) : Bool := decide (txL x ≤ txL y)
theorem enc_txL (x : ByteArray) : encStr (txL x) = .string x := rfl
theorem map_txL (xs : List ByteArray) : (xs.map txL).map encStr = xs.map Value.string := by
  rw [List.map_map]; rfl
theorem sort_txL (xs : List ByteArray) : (xs.map txL).mergeSort (fun x y => decide (x ≤ y)) = (xs.mergeSort leT).map txL := (List.map_mergeSort (r := leT) (s := fun x y => decide (x ≤ y)) (f := txL) (l := xs) fun a _ b _ => rfl).symm
theorem reps_strs {S : Nat → Prop} {H : Heap} : ∀ {xs : List ByteArray} {cs : List Value}, tStr.reps S H cs xs → cs = xs.map Value.string ∧ ∀ x ∈ xs, x.size ≤ maxLen
  | [], _, h => by cases h; exact ⟨rfl, fun x hx => by cases hx⟩
  | x :: xs, _, h => by
    obtain ⟨c, r, rfl, ⟨rfl, h1⟩, h2⟩ := h
    obtain ⟨rfl, h3⟩ := reps_strs h2
    refine ⟨rfl, fun y hy => ?_⟩
    rcases List.mem_cons.1 hy with rfl | hy
    · exact h1
    · exact h3 y hy
theorem strs_reps {S : Nat → Prop} {H : Heap} : ∀ {xs : List ByteArray}, (∀ x ∈ xs, x.size ≤ maxLen) → tStr.reps S H (xs.map Value.string) xs
  | [], _ => rfl
  | x :: xs, h => ⟨[.string x], xs.map Value.string, rfl, ⟨rfl, h x (by simp)⟩, strs_reps fun y hy => h y (by simp [hy])⟩
theorem sortS {P : Program} {f : FuncId} {B : Nat → Prop} {H0 H : Heap} {ps : List Pc} {e : TypeId} {a : Option Addr} {n cap : Nat} {xs : List ByteArray} {K : Value → Heap → Prop} (hf : SortsS P f) (st : StB B H0 H ps) (i : Nat) (hp : ps[i]? = some (pS tStr e a n cap xs)) (hlen : xs.length < 4611686018427387904)
    (k : ∀ H', StB B H0 H' (ps.set i (pS tStr e a n cap (xs.mergeSort leT))) → K (.tuple #[]) H') : VCall P f #[.slice a n cap] H K := by
  obtain ⟨hown, -⟩ := st.at_ i hp
  obtain ⟨cs, ⟨hcl, hcase⟩, hreps⟩ := hown
  obtain ⟨rfl, hrng⟩ := reps_strs hreps
  refine ⟨fun w hw => ⟨hf.call _ w, ?_⟩⟩
  subst hw
  rcases hcase with ⟨he, hn0⟩ | ⟨b, c, l, he, -, hb, hnc, hcm, hll, htk⟩
  · injection he with e1 e2 e3
    subst e1; subst e2; subst e3
    obtain rfl := List.eq_nil_of_length_eq_zero hn0
    refine (hf.none_ none 0 w).mono ?_
    rintro _ _ ⟨rfl, rfl⟩
    exact ⟨_, rfl, Env.refl _, k _ (by rw [show ([] : List ByteArray).mergeSort leT = [] by simp]; exact st.say i hp _ (st.at_ i hp) (fun k hk => hk))⟩
  · injection he with e1 e2 e3
    subst e1; subst e2; subst e3
    rw [show xs.length * tStr.size = xs.length from Nat.mul_one _] at htk
    rw [show cap * tStr.size = cap from Nat.mul_one _] at hll
    have hbl := (Array.getElem?_eq_some_iff.1 hb).1
    have hsl : (xs.mergeSort leT).length = xs.length := List.length_mergeSort _
    have hml : (xs.map txL).length = xs.length := List.length_map _
    have hH : Holds encStr w b 0 (xs.map txL).toArray := holds_of_block (e := e) (cur := l.toArray) hb (by rw [hml, map_txL]; simpa using htk)
    have hs := hf.some_ b 0 cap (xs.map txL) w hH hbl (by rw [hml]; exact hlen)
    rw [hml, sort_txL] at hs
    refine hs.mono ?_
    rintro _ w' ⟨rfl, n, os, rfl⟩
    have hbw := heap_sorted (n := n) (os := os) ((xs.mergeSort leT).map txL).toArray hb
    obtain ⟨-, -, -, hsz, hoth⟩ := grownBy_sorted (w := w) (g := b) (n := n) (os := os) ((xs.mergeSort leT).map txL).toArray
    refine ⟨_, rfl, ⟨rfl, rfl, rfl⟩, k _ (st.upd i hp (fun j hj => hoth j hj.1 fun e => ?_) _ ⟨⟨_, ⟨?_, .inr ⟨b, cap, (putCells encStr 0 ((xs.mergeSort leT).map txL).toArray l.toArray).toList, ?_, Nat.zero_le _, ?_, by omega, hcm, ?_, ?_⟩⟩, strs_reps fun x hx => hrng x (List.mem_mergeSort.1 hx)⟩, fun k hk => hk.elim⟩ (fun k hk => .inl hk) (fun k hk => ?_) hsz)⟩
    · cases e
      exact hj.2 (.inl ⟨0, _, _, rfl⟩)
    · rw [List.length_map]; exact (Nat.mul_one _).symm
    · rw [hsl]
    · show _ = _
      rw [hbw]
    · rw [Array.length_toList]
      unfold putCells
      rw [Array.size_mapIdx]
      simp only [List.size_toArray, hll]
      exact (Nat.mul_one _).symm
    · rw [show (xs.mergeSort leT).length * tStr.size = (xs.mergeSort leT).length from Nat.mul_one _]
      have := take_putCells l.toArray ((xs.mergeSort leT).map txL) (by rw [List.length_map, hsl]; simpa [hll] using hnc)
      rw [List.length_map, map_txL] at this
      exact this
    · have h1 := (st.in_ i hp hk).2
      exact Nat.lt_of_lt_of_le h1 hsz
end Go.VC
namespace Go.Proofs.YtfdlhakfmbdamaaDoor
open Go.VC
def sortS_ren : Go.Shelf.Ren := ⟨fun | 190 => 33 | 125 => 41 | 258 => 40 | 128 => 51 | 129 => 52 | 302 => 42 | 303 => 43 | 304 => 44 | 305 => 45 | 306 => 46 | 307 => 47 | 308 => 48 | 309 => 49 | 310 => 50 | 333 => 53 | 329 => 54 | 330 => 55 | 334 => 56 | 335 => 57 | 336 => 58 | 344 => 59 | n => n, fun | 31 => 71 | 9 => 9 | 3 => 3 | 46 => 108 | 0 => 0 | 51 => 129 | 53 => 131 | 4 => 4 | 183 => 123 | 182 => 122 | 131 => 91 | 5 => 5 | 218 => 132 | 222 => 136 | 228 => 138 | 229 => 139 | n => n, fun | n => n⟩
theorem lays190 : Go.Proofs.Lays.n190 Tryd.prog sortS_ren := {
  mixed := by kernel_rfl
  f125 := Tryd.func41.trans (congrArg some (by kernel_rfl))
  f128 := Tryd.func51.trans (congrArg some (by kernel_rfl))
  f129 := Tryd.func52.trans (congrArg some (by kernel_rfl))
  f190 := Tryd.func33.trans (congrArg some (by kernel_rfl))
  f258 := Tryd.func40.trans (congrArg some (by kernel_rfl))
  f302 := Tryd.func42.trans (congrArg some (by kernel_rfl))
  f303 := Tryd.func43.trans (congrArg some (by kernel_rfl))
  f304 := Tryd.func44.trans (congrArg some (by kernel_rfl))
  f305 := Tryd.func45.trans (congrArg some (by kernel_rfl))
  f306 := Tryd.func46.trans (congrArg some (by kernel_rfl))
  f307 := Tryd.func47.trans (congrArg some (by kernel_rfl))
  f308 := Tryd.func48.trans (congrArg some (by kernel_rfl))
  f309 := Tryd.func49.trans (congrArg some (by kernel_rfl))
  f310 := Tryd.func50.trans (congrArg some (by kernel_rfl))
  f329 := Tryd.func54.trans (congrArg some (by kernel_rfl))
  f330 := Tryd.func55.trans (congrArg some (by kernel_rfl))
  f333 := Tryd.func53.trans (congrArg some (by kernel_rfl))
  f334 := Tryd.func56.trans (congrArg some (by kernel_rfl))
  f335 := Tryd.func57.trans (congrArg some (by kernel_rfl))
  f336 := Tryd.func58.trans (congrArg some (by kernel_rfl))
  f344 := Tryd.func59.trans (congrArg some (by kernel_rfl))
  t0 := Tryd.underlying0
  a0 := Tryd.isAgg0
  z0 := Tryd.sizeOf0
  v0 := Tryd.zeroValue0
  t3 := Tryd.underlying3
  a3 := Tryd.isAgg3
  z3 := Tryd.sizeOf3
  v3 := Tryd.zeroValue3
  t4 := Tryd.underlying4
  a4 := Tryd.isAgg4
  z4 := Tryd.sizeOf4
  v4 := Tryd.zeroValue4
  t5 := Tryd.underlying5
  a5 := Tryd.isAgg5
  z5 := Tryd.sizeOf5
  v5 := Tryd.zeroValue5
  t9 := Tryd.underlying9
  a9 := Tryd.isAgg9
  z9 := Tryd.sizeOf9
  v9 := Tryd.zeroValue9
  t31 := Tryd.underlying71
  a31 := Tryd.isAgg71
  z31 := Tryd.sizeOf71
  v31 := Tryd.zeroValue71
  t46 := Tryd.underlying108
  a46 := Tryd.isAgg108
  z46 := Tryd.sizeOf108
  v46 := Tryd.zeroValue108
  t51 := Tryd.underlying129
  a51 := Tryd.isAgg129
  z51 := Tryd.sizeOf129
  v51 := Tryd.zeroValue129
  t53 := Tryd.underlying131
  a53 := Tryd.isAgg131
  z53 := Tryd.sizeOf131
  v53 := Tryd.zeroValue131
  t131 := Tryd.underlying91
  a131 := Tryd.isAgg91
  z131 := Tryd.sizeOf91
  v131 := Tryd.zeroValue91
  t182 := Tryd.underlying122
  a182 := Tryd.isAgg122
  z182 := Tryd.sizeOf122
  v182 := Tryd.zeroValue122
  t183 := Tryd.underlying123
  a183 := Tryd.isAgg123
  z183 := Tryd.sizeOf123
  v183 := Tryd.zeroValue123
  t218 := Tryd.underlying132
  a218 := Tryd.isAgg132
  z218 := Tryd.sizeOf132
  v218 := Tryd.zeroValue132
  t222 := Tryd.underlying136
  a222 := Tryd.isAgg136
  z222 := Tryd.sizeOf136
  v222 := Tryd.zeroValue136
  t228 := Tryd.underlying138
  a228 := Tryd.isAgg138
  z228 := Tryd.sizeOf138
  v228 := Tryd.zeroValue138
  t229 := Tryd.underlying139
  a229 := Tryd.isAgg139
  z229 := Tryd.sizeOf139
  v229 := Tryd.zeroValue139 }
theorem sortsS_ : SortsS Tryd.prog 33 where
  call := Tryd.call33
  some_ := fun blk off cap zs w hH hblk hsz => Any.slices_Sort_string lays190 blk off cap zs w hH hblk hsz
  none_ := fun p cap w => Any.slices_Sort_string_none lays190 p cap w
end Go.Proofs.YtfdlhakfmbdamaaDoor
