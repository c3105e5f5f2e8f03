/- The law KeysSelf: its walk. -/
import Derived.Test.YtfdlhakfmbdamaaPKMt
set_option linter.unusedVariables false
set_option linter.unusedSimpArgs false
set_option maxRecDepth 100000
namespace Go.Proofs.Ytfdlhakfmbdamaa
open Go.VC
theorem alignM_get {view source : List ByteArray} {i : Nat} (hi : i < view.length) : (alignM view source)[i]? = some (takes view source i) := by
  unfold alignM
  rw [List.getElem?_map, List.getElem?_range hi]; rfl
set_option maxHeartbeats 4000000 in
theorem keysSelf_p (sa : Option Addr) (sc : Nat) (source : List ByteArray) (more : ByteArray) (S : Nat → Prop) (H : Heap) (hS : ∀ k, S k → k < H.size) (hs : SlD tStr S H sa sc source) (ns : source.length ≤ 4194300) (nm : more.size ≤ 4194304) :
    Pure Try.prog 6 #[.slice sa source.length sc, .string more] H (.bool true) := by
  refine FnOk.of_vc Try.func6 rfl (Try.call6 _) ?_
  (conv => whnf); refine pures (speaks_p H) fun H1 ha1 => ?_
  have st1 := (St.nil H).call ha1
  (conv => whnf); refine vbuild0 sl22 ?_
  intro q2 H2 hq2 hs2 hb2 ha2
  have st2 := st1.new (T := tStr) (xs := []) hq2 hs2 hb2 ha2 rfl rfl (by decide)
  (conv => whnf); refine appD st2 0 sl22 tStr_ones tStr_free rfl (fun k hk => hS k hk) (hs.frame (st2.old.mono hS)) (by simp; omega) (by decide) fun a3 c3 H3 st3 => ?_
  rw [show ([] : List ByteArray).length + source.length = source.length by simp] at st3 ⊢
  rw [List.nil_append] at st3
  have hx3 : SlD tStr (Old H3) H3 a3 c3 source := st3.view 0 rfl
  (conv => whnf); refine VCall.mk (align_c a3 a3 c3 c3 source source (Old H3) H3 (fun k hk => hk) hx3 hx3 (by omega) (by omega)) ?_
  rintro _ H4 ⟨ha4, hs4, ab, rfl, hab, hw4⟩
  have hal : (alignM source source).length = source.length := by simp [alignM]
  obtain ⟨a4, c4, e4, st4⟩ := st3.got ha4 hw4
  rw [hal] at e4 st4
  injection e4 with e5 _ e6
  subst e5; subst e6
  (conv => whnf); refine vbuild0 sl22 ?_
  intro q5 H5 hq5 hs5 hb5 ha5
  have st5 := st4.new (T := tStr) (xs := []) hq5 hs5 hb5 ha5 rfl rfl (by decide)
  (conv => whnf); refine appD st5 2 sl22 tStr_ones tStr_free rfl (fun k hk => hS k hk) (hs.frame (st5.old.mono hS)) (by simp; omega) (by decide) fun a6 c6 H6 st6 => ?_
  rw [show ([] : List ByteArray).length + source.length = source.length by simp] at st6 ⊢
  rw [List.nil_append] at st6
  (conv => whnf); refine vbuild1 sl22 [.string more] rfl rfl (by decide) (by decide) ?_
  intro q7 H7 hq7 hs7 hb7 ha7
  (conv => whnf); refine app1 (x := more) (st6.skip hq7 ha7) 2 sl22 rfl hb7 ⟨rfl, by unfold maxLen; omega⟩ rfl (by omega) (by decide) fun a8 c8 H8 st8 _ => ?_
  have hl8 : source.length + 1 = (source ++ [more]).length := by simp
  rw [hl8] at st8 ⊢
  have hx8 : SlD tStr (Old H8) H8 a3 c3 source := st8.view 0 rfl
  have hy8 : SlD tStr (Old H8) H8 a8 c8 (source ++ [more]) := st8.view 2 rfl
  (conv => whnf); refine VCall.mk (align_c a8 a3 c8 c3 (source ++ [more]) source (Old H8) H8 (fun k hk => hk) hy8 hx8 (by simp; omega) (by omega)) ?_
  rintro _ H9 ⟨ha9, hs9, bb, rfl, hbb, hw9⟩
  have hal9 : (alignM (source ++ [more]) source).length = (source ++ [more]).length := by simp [alignM]
  obtain ⟨a9, c9, e9, st9⟩ := st8.got ha9 hw9
  rw [hal9] at e9 st9
  injection e9 with e10 _ e11
  subst e10; subst e11
  rw [← hl8] at st9 ⊢
  have d1 : ((source.length : Int) != (source.length : Int)) = false := by simp
  have d2 : (((source.length + 1 : Nat) : Int) != (source.length : Int) + 1) = false := by simp
  (conv => whnf); rw [d1]
  (conv => whnf); rw [w64 (x := (source.length : Int) + 1) (by omega) (by omega)]
  (conv => whnf); rw [d2]
  (conv => whnf); refine ixO sl24 st9 3 rfl (alignM_get (i := source.length) (by simp)) rfl ?_
  rintro b10 o10 cs10 hS10 hc10 ⟨rfl, -⟩
  (conv => whnf); refine ld1 ct3 hc10.one trivial ?_
  rw [takes_last]
  have hx9 : SlD tStr (Old H9) H9 a3 c3 source := st9.view 0 rfl
  (conv => whnf); refine VCall.mk (spare_c a3 a3 c3 c3 source source (Old H9) H9 (fun k hk => hk) hx9 hx9 (by omega) (by omega)) ?_
  rintro v11 H11 ⟨ha11, hw11⟩
  rw [spare_self] at hw11
  obtain ⟨a11, c11, rfl⟩ := hw11.hull
  have st11 := st9.call ha11
  (conv => whnf)
  refine VLoop.mk [8] (fun i : Nat => [.int .i64 (i : Int)]) (fun i H12 => i ≤ source.length ∧ H12 = H11) (fun i _ => source.length - i) ?_ ?_
  · (conv => whnf)
    exact ⟨0, rfl, Nat.zero_le _, rfl⟩
  · rintro i _ junk12 ⟨hi, rfl⟩
    (conv => whnf); refine VIte.mk (fun hz => ?_) (fun hz => ?_) <;> simp only [decide_eq_true_eq, decide_eq_false_iff_not] at hz
    · have hil : i < source.length := by omega
      have d3 : ((i : Int) != (i : Int)) = false := by simp
      (conv => whnf); refine ixO sl24 st11 1 rfl (alignM_get (i := i) hil) rfl ?_
      rintro b13 o13 cs13 hS13 hc13 ⟨rfl, -⟩
      (conv => whnf); refine ld1 ct3 hc13.one trivial ?_
      rw [takes_self hil]
      (conv => whnf); rw [d3]
      (conv => whnf); refine ixO sl24 st11 3 rfl (alignM_get (i := i) (by simp; omega)) rfl ?_
      rintro b14 o14 cs14 hS14 hc14 ⟨rfl, -⟩
      (conv => whnf); refine ld1 ct3 hc14.one trivial ?_
      rw [takes_more more hil]
      (conv => whnf); rw [d3]
      (conv => whnf); rw [w64 (x := (i : Int) + 1) (by omega) (by omega)]
      exact ⟨rfl, i + 1, by simp, ⟨by omega, rfl⟩, by omega⟩
    · (conv => whnf)
      exact ⟨rfl, st11.old⟩
end Go.Proofs.Ytfdlhakfmbdamaa
