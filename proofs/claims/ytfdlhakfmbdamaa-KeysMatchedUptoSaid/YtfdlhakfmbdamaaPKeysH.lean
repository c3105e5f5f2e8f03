/- The helpers of the laws of layer 17; the document's Align. -/
import Derived.Test.YtfdlhakfmbdamaaPAlign
import Derived.Test.YtfdlhakfmbdamaaVMem
set_option linter.unusedVariables false
set_option linter.unusedSimpArgs false
set_option maxRecDepth 100000
namespace Go.VC
theorem tStr_ones : tStr.Ones := by
  rintro S H cs x ⟨rfl, _⟩ u hu
  cases List.mem_singleton.1 hu; rfl
theorem tStr_free : tStr.Free := fun S S' H H' cs x h => h
theorem reps_take {α : Type} {T : Ty α} {S : Nat → Prop} {H : Heap} : ∀ {xs : List α} {cs : List Value} (i : Nat), T.reps S H cs xs → ∃ l r, cs = l ++ r ∧ T.reps S H l (xs.take i)
  | xs, cs, 0, h => ⟨[], cs, rfl, by rw [List.take_zero]; rfl⟩
  | [], cs, i + 1, h => ⟨[], cs, rfl, by rw [List.take_nil]; rfl⟩
  | x :: xs, cs, i + 1, ⟨c, r, e, h1, h2⟩ => by
    obtain ⟨l, r', e', hl⟩ := reps_take i h2
    exact ⟨c ++ l, r', by rw [e, e', List.append_assoc], c, l, rfl, h1, hl⟩
theorem SlD.take {α : Type} {T : Ty α} {S : Nat → Prop} {H : Heap} {a : Option Addr} {cap : Nat} {xs : List α} (h : SlD T S H a cap xs) (i : Nat) : SlD T S H a cap (xs.take i) := by
  cases a with
  | none => obtain ⟨rfl, rfl⟩ := h; exact ⟨List.take_nil, rfl⟩
  | some ad =>
    obtain ⟨h3, h4, h0 | ⟨h1, h2, ec, h5, h6⟩⟩ := h
    · exact ⟨by simp; omega, h4, .inl h0⟩
    · obtain ⟨l, r, rfl, hl⟩ := reps_take i h6
      exact ⟨by simp; omega, h4, .inr ⟨h1, h2, l, h5.left, hl⟩⟩
end Go.VC
namespace Go.Proofs.Ytfdlhakfmbdamaa
open Go.VC

theorem ints_p (a1 a2 : Option Addr) (c1 c2 : Nat) (xs ys : List Int) (S : Nat → Prop) (H : Heap) (hS : ∀ k, S k → k < H.size) (h1 : SlD tI S H a1 c1 xs) (h2 : SlD tI S H a2 c2 ys) :
    Pure Try.prog 11 #[.slice a1 xs.length c1, .slice a2 ys.length c2] H (.bool (decide (xs = ys))) := by
  have l1 := h1.le
  unfold maxLen at l1
  refine FnOk.of_vc Try.func11 rfl (Try.call11 _) ?_
  (conv => whnf); refine VIte.mk (fun h => ?_) (fun h => ?_)
  · (conv => whnf)
    refine ⟨?_, Agr.refl _ _⟩
    rw [decide_eq_false]
    rintro rfl
    simp at h
  · have hl : xs.length = ys.length := by
      have : (xs.length : Int) = (ys.length : Int) := by simpa using h
      omega
    (conv => whnf)
    refine VLoop.mk [5] (fun k : Nat => [.int .i64 k]) (fun k H2 => k ≤ xs.length ∧ H2 = H ∧ xs.take k = ys.take k) (fun k _ => xs.length - k) ?_ ?_
    · (conv => whnf); exact ⟨0, rfl, by omega, rfl, by simp⟩
    · rintro k H2 junk ⟨hk, rfl, htk⟩
      (conv => whnf); refine VIte.mk (fun h => ?_) (fun h => ?_) <;> simp only [decide_eq_true_eq, decide_eq_false_iff_not] at h
      · obtain ⟨x, hx⟩ := get_some (l := xs) (k := k) (by omega)
        obtain ⟨y, hy⟩ := get_some (l := ys) (k := k) (by omega)
        (conv => whnf); refine VDraw.lex rfl (by kernel_rfl) ?_
        (conv => whnf); refine ixr sl24 h1 hx rfl ?_
        rintro b3 o3 cs3 hSb3 hcells3 ⟨rfl, -⟩
        (conv => whnf); refine ld1 ct3 hcells3.one trivial ?_
        (conv => whnf); refine ixr sl24 h2 hy rfl ?_
        rintro b4 o4 cs4 hSb4 hcells4 ⟨rfl, -⟩
        (conv => whnf); refine ld1 ct3 hcells4.one trivial ?_
        (conv => whnf); refine VIte.mk (fun h => ?_) (fun h => ?_)
        · (conv => whnf)
          refine ⟨?_, Agr.refl _ _⟩
          rw [decide_eq_false]
          rintro rfl
          rw [hx] at hy
          cases hy
          simp at h
        · have hxy : x = y := by simpa using h
          (conv => whnf); rw [w64 (x := (k : Int) + 1) (by omega) (by omega)]
          exact ⟨rfl, k + 1, by simp, ⟨by omega, rfl, by rw [take_succ_snoc hx, take_succ_snoc hy, htk, hxy]⟩, by omega⟩
      · obtain rfl : k = xs.length := by omega
        (conv => whnf)
        refine ⟨?_, Agr.refl _ _⟩
        rw [List.take_length, hl, List.take_length] at htk
        rw [decide_eq_true htk]

theorem texts_p (a1 a2 : Option Addr) (c1 c2 : Nat) (xs ys : List ByteArray) (S : Nat → Prop) (H : Heap) (hS : ∀ k, S k → k < H.size) (h1 : SlD tStr S H a1 c1 xs) (h2 : SlD tStr S H a2 c2 ys) (he : xs = ys) :
    Pure Try.prog 15 #[.slice a1 xs.length c1, .slice a2 ys.length c2] H (.bool true) := by
  subst he
  have l1 := h1.le
  unfold maxLen at l1
  refine FnOk.of_vc Try.func15 rfl (Try.call15 _) ?_
  have d0 : ((xs.length : Int) != (xs.length : Int)) = false := by simp
  (conv => whnf); rw [d0]
  (conv => whnf)
  refine VLoop.mk [5] (fun k : Nat => [.int .i64 k]) (fun k H2 => k ≤ xs.length ∧ H2 = H) (fun k _ => xs.length - k) ?_ ?_
  · (conv => whnf); exact ⟨0, rfl, by omega, rfl⟩
  · rintro k H2 junk ⟨hk, rfl⟩
    (conv => whnf); refine VIte.mk (fun h => ?_) (fun h => ?_) <;> simp only [decide_eq_true_eq, decide_eq_false_iff_not] at h
    · obtain ⟨x, hx⟩ := get_some (l := xs) (k := k) (by omega)
      (conv => whnf); refine VDraw.lex rfl (by kernel_rfl) ?_
      (conv => whnf); refine ixr sl22 h1 hx rfl ?_
      rintro b3 o3 cs3 hSb3 hcells3 ⟨rfl, -⟩
      (conv => whnf); refine ld1 ct9 hcells3.one trivial ?_
      (conv => whnf); refine ixr sl22 h2 hx rfl ?_
      rintro b4 o4 cs4 hSb4 hcells4 ⟨rfl, -⟩
      (conv => whnf); refine ld1 ct9 hcells4.one trivial ?_
      have d1 : (!(x.toList == x.toList)) = false := by rw [text_same, same_self]; rfl
      (conv => whnf); rw [d1]
      (conv => whnf); rw [w64 (x := (k : Int) + 1) (by omega) (by omega)]
      exact ⟨rfl, k + 1, by simp, ⟨by omega, rfl⟩, by omega⟩
    · (conv => whnf)
      exact ⟨rfl, Agr.refl _ _⟩

def markT : ByteArray := ⟨#[109, 97, 114, 107]⟩
def otherT : ByteArray := ⟨#[111, 116, 104, 101, 114, 32, 109, 97, 114, 107]⟩
theorem handed_c (la : Option Addr) (lc : Nat) (l : List ByteArray) (S : Nat → Prop) (H : Heap) (hS : ∀ k, S k → k < H.size) (hl : SlD tStr S H la lc l) (hn : l.length ≤ 4194304) :
    FnOk Try.prog 9 #[.slice la l.length lc] H fun v H' => Agr (Old H) H H' ∧ H.size ≤ H'.size ∧ ∃ a cap, v = .tuple #[.slice a l.length cap, .slice a (l ++ [markT, otherT]).length cap] ∧
      SlD tStr (fun j => H.size ≤ j ∧ j < H'.size) H' a cap (l ++ [markT, otherT]) := by
  refine FnOk.of_vc Try.func9 rfl (Try.call9 _) ?_
  (conv => whnf); rw [w64 (x := (l.length : Int) + 2) (by omega) (by omega)]
  (conv => whnf); refine vmake1 sl22 rfl (by omega) (by omega) (by omega) (by omega) ?_
  intro nb H1 hnb hs1 hb1 ha1
  have hA1 : Agr (Old H) H H1 := ha1.mono fun j hj => by unfold Old at hj; omega
  have hqb : ∀ j, slB (.slice (some ⟨nb, 0, none⟩) 0 ((l.length : Int) + 2).toNat) j → j = nb := by rintro j ⟨o, n, c, e⟩; cases e; rfl
  have hown1 : SlO tStr (fun _ => False) H1 H.size 9 (.slice (some ⟨nb, 0, none⟩) 0 ((l.length : Int) + 2).toNat) [] := by
    have := Sl.made (sz := tStr.size) (n := 0) (cap := ((l.length : Int) + 2).toNat) (lo := H.size) (by omega) hb1 (by omega) (by unfold maxLen; omega) (by show _ = _ * 1; simp)
    exact ⟨[], by simpa using this, rfl⟩
  (conv => whnf); refine vappendD (T := tStr) (S := S) (lo := H.size) (xs := []) sl22 tStr_ones (hown1.mono fun _ f => f.elim) (by omega) (fun j hj => ⟨by have := hS j hj; omega, fun hb => by have := hqb j hb; have := hS j hj; omega⟩) ((hl.frame (hA1.mono hS))) (by simp only [maxLen, List.length_nil]; omega) (by simp only [List.length_nil]; omega) ?_
  intro v2 H2 hown2 ha2 hs2 hf2
  rw [List.nil_append] at hown2
  replace hown2 : SlO tStr (fun _ => False) H2 H.size 9 v2 l := hown2.free tStr_free
  have hA2 : Agr (Old H) H H2 := hA1.trans (ha2.mono fun j hj => ⟨old_lt hA1 hj, fun hb => by have := hqb j hb; unfold Old at hj; omega⟩)
  (conv => whnf); refine vbuild2 sl22 [.string markT] [.string otherT] rfl rfl rfl rfl (by decide) (by decide) ?_
  intro qb H3 hqb3 hs3 hb3 ha3
  have hown3 := hown2.agr ha3 (fun b hb => by have := (hown2.lt hb).2; omega) (fun _ f => f.elim)
  have hA3 : Agr (Old H) H H3 := hA2.trans (ha3.mono fun j hj => by have := old_lt hA2 hj; omega)
  (conv => whnf); refine vappendO (T := tStr) (S := fun _ => False) (ys := [markT, otherT]) (ds := [.string markT, .string otherT]) (lo := H.size) (xs := l) sl22 hown3 (by omega) (fun k hk => hk.elim)
        (hb3.cells (fun j v hv => by simpa using hv)) ⟨[_], [_], rfl, ⟨rfl, by decide⟩, Ty.reps_one ⟨rfl, by decide⟩⟩ rfl (by intro u hu; simp only [List.mem_cons, List.mem_nil_iff, or_false] at hu; rcases hu with rfl | rfl <;> rfl) (by simp only [maxLen, List.length_cons, List.length_nil]; omega) (by simp only [List.length_cons, List.length_nil]; omega) ?_
  intro v4 H4 hown4 ha4 hs4 hf4
  have hA4 : Agr (Old H) H H4 := hA3.trans (ha4.mono fun j hj => ⟨old_lt hA3 hj, fun hb => by have := (hown3.lt hb).1; unfold Old at hj; omega⟩)
  obtain ⟨a, cap, rfl, hd, -⟩ := hown4.view (S' := fun j => H.size ≤ j ∧ j < H4.size) (fun b hb => hown4.lt hb) (fun _ f => f.elim)
  have hle := hd.le
  rw [List.length_append] at hle
  (conv => whnf); refine vcutH sl22 (by omega) (by omega) ?_
  (conv => whnf)
  exact ⟨hA4, by omega, a, cap, rfl, hd⟩

theorem kept_g (m1 m2 : ByteArray) (d1 : (m1.toList == (⟨#[109, 97, 114, 107]⟩ : ByteArray).toList) = true) (d2 : (m2.toList == (⟨#[111, 116, 104, 101, 114, 32, 109, 97, 114, 107]⟩ : ByteArray).toList) = true) (a1 a2 : Option Addr) (c1 c2 : Nat) (l : List ByteArray) (S : Nat → Prop) (H : Heap) (hS : ∀ k, S k → k < H.size) (h1 : SlD tStr S H a1 c1 (l ++ [m1, m2])) (h2 : SlD tStr S H a2 c2 l) (hn : l.length ≤ 4194304) :
    Pure Try.prog 12 #[.slice a1 (l ++ [m1, m2]).length c1, .slice a2 l.length c2] H (.bool true) := by
  have hle := h1.le
  rw [List.length_append] at hle
  refine FnOk.of_vc Try.func12 rfl (Try.call12 _) ?_
  (conv => whnf); refine vcutH sl22 (by omega) (by omega) ?_
  have ht := h1.take l.length
  rw [List.take_left] at ht
  (conv => whnf); refine pures (texts_p a1 a2 c1 c2 l l S H hS ht h2 rfl) fun H1 ha1 => ?_
  have h1' := h1.frame (ha1.mono hS)
  (conv => whnf); refine ixr (i := l.length) (x := m1) sl22 h1' (by simp) rfl ?_
  rintro b3 o3 cs3 hSb3 hcells3 ⟨rfl, -⟩
  (conv => whnf); refine ld1 ct9 hcells3.one trivial ?_
  (conv => whnf); rw [d1]
  (conv => whnf); rw [w64 (x := (l.length : Int) + 1) (by omega) (by omega)]
  (conv => whnf); refine ixr (i := l.length + 1) (x := m2) sl22 h1' (by simp) (by simp) ?_
  rintro b4 o4 cs4 hSb4 hcells4 ⟨rfl, -⟩
  (conv => whnf); refine ld1 ct9 hcells4.one trivial ?_
  (conv => whnf); rw [d2]
  (conv => whnf)
  exact ⟨rfl, ha1⟩

theorem kept_p (a1 a2 : Option Addr) (c1 c2 : Nat) (l : List ByteArray) (S : Nat → Prop) (H : Heap) (hS : ∀ k, S k → k < H.size) (h1 : SlD tStr S H a1 c1 (l ++ [markT, otherT])) (h2 : SlD tStr S H a2 c2 l) (hn : l.length ≤ 4194304) :
    Pure Try.prog 12 #[.slice a1 (l ++ [markT, otherT]).length c1, .slice a2 l.length c2] H (.bool true) :=
  kept_g markT otherT (by rw [text_same]; exact same_self _) (by rw [text_same]; exact same_self _) a1 a2 c1 c2 l S H hS h1 h2 hn

end Go.Proofs.Ytfdlhakfmbdamaa
