/- dfa.Cells; two and speaks of the laws of layer 5. -/
import Derived.Test.YtpnnedkpbmilkaaPAuto
import Derived.Test.YtpnnedkpbmilkaaVMem
set_option linter.unusedVariables false
set_option linter.unusedSimpArgs false
set_option maxRecDepth 100000
namespace Go.Proofs.Ytpnnedkpbmilkaa
open Go.VC
def twoM : AM := madeM [BitVec.allOnes 256] [[1], [0]] [false, true]
theorem two_sound : soundB [BitVec.allOnes 256] [[1], [0]] 2 = true := by rfl
theorem two_n : stN (some twoM) = 2 := rfl
theorem two_a : acceptsM (some twoM) ⟨#[97]⟩ = true := by kernel_rfl
theorem two_ab : acceptsM (some twoM) ⟨#[97, 98]⟩ = false := by kernel_rfl
theorem two_next : twoM.next = [[1], [0]] := by kernel_rfl
open Classical in
theorem two_alive : aliveM (some twoM) 0 = true := by
  have h1 : twoM.final[1]? = some true := rfl
  have h0 : LiveT twoM.next twoM.final 0 := .step (t := 1) (row := [1]) (by rw [two_next]; rfl) (List.mem_singleton.2 rfl) (.fin h1)
  simp only [aliveM]
  exact decide_eq_true h0
attribute [local irreducible] mRun

theorem tSet_ones : tSet.Ones := by
  intro S H cs x h u hu
  obtain rfl := h
  simp [setL] at hu
  rcases hu with rfl | rfl | rfl | rfl <;> rfl
theorem tSet_free : tSet.Free := fun S S' H H' cs x h => h
theorem SlD.ofBlk {α : Type} {T : Ty α} {S : Nat → Prop} {H : Heap} {b n : Nat} {e : TypeId} {l : List Value} {xs : List α} (hb : Blk H b e l) (hS : S b) (hr : T.reps S H l xs) (hn : n = xs.length) (hm : n ≤ maxLen) : SlD T S H (some ⟨b, 0, none⟩) n xs :=
  SlD.intro hS (Nat.le_of_eq hn.symm) hm (hb.cells (fun j v hv => by rw [Nat.zero_add]; exact hv)) hr
def cellsM : Option AM → List (BitVec 256)
  | none => [BitVec.allOnes 256]
  | some A => A.sets
def Fresh (H H' : Heap) (k : Nat) : Prop := H.size ≤ k ∧ k < H'.size
theorem cells_c {S : Nat → Prop} {H : Heap} {v : Value} {o : Option AM} (hS : ∀ k, S k → k < H.size) (h : AutoV S H v o) :
    FnOk Try.prog 26 #[v] H fun v' H' => Agr (Old H) H H' ∧ H.size ≤ H'.size ∧ ∃ a cap, v' = .slice a (cellsM o).length cap ∧ SlD tSet (Fresh H H') H' a cap (cellsM o) := by
  refine FnOk.of_vc Try.func26 rfl (Try.call26 _) ?_
  cases o with
  | none =>
    obtain rfl := h
    (conv => whnf); refine peqN ptrA ?_
    (conv => whnf); refine pures (span_p 0 255 (by decide) (by decide) H) fun H1 ha1 => ?_
    rw [spanS_full]
    have hs1 := old_size ha1
    (conv => whnf); refine vbuild1 sl29 (setL (BitVec.allOnes 256)) rfl rfl (by decide) (by decide) ?_
    intro b H2 hb hs2 hb2 ha2
    (conv => whnf)
    exact ⟨ha1.trans (ha2.mono fun k hk => by unfold Old at hk; omega), by omega, _, _, rfl, SlD.ofBlk hb2 ⟨by omega, by omega⟩ (Ty.reps_one rfl) rfl (by decide)⟩
  | some A =>
    obtain ⟨pb, rfl, hown, hok, ac, cc, an, cn, af, cf, aa, ca, al, hb, hsets, hnext, hfin, hal, hall, hlive⟩ := h
    have hcl : A.cell.length ≤ 256 := Nat.le_of_eq hok.cell
    have hsl := hok.sl
    (conv => whnf); refine peqS ptrA ?_
    (conv => whnf); refine fa fl91_0 ?_
    (conv => whnf); refine ld1 ct29 (by rw [hb.cell]; exact autoL_0) trivial ?_
    (conv => whnf); refine vappendD (T := tSet) (S := S) (lo := H.size) (xs := []) sl29 tSet_ones SlO.nil (Nat.le_refl _) (fun k hk => ⟨hS k hk, ?_⟩) hsets (by simp only [maxLen, List.length_nil]; omega) (by simp only [List.length_nil]; omega) ?_
    · rintro ⟨o, n, c, h⟩; cases h
    intro v2 H2 hown2 ha2 hs2 _
    rw [List.nil_append] at hown2
    have hown2' : SlO tSet (fun _ => False) H2 H.size 41 v2 A.sets := hown2.free tSet_free
    obtain ⟨ax, capx, rfl, hx, -⟩ := hown2'.view (S' := Fresh H H2) (fun k hk => hown2.lt hk) (fun k hk => hk.elim)
    (conv => whnf)
    exact ⟨ha2.mono fun k hk => ⟨hk, fun hb => by obtain ⟨o, n, c, h⟩ := hb; cases h⟩, hs2, ax, capx, rfl, hx⟩

theorem two_c (H : Heap) : FnOk Try.prog 36 #[] H fun v' H' => Agr (Old H) H H' ∧ H.size ≤ H'.size ∧ AutoV (Fresh H H') H' v' (some twoM) := by
  refine FnOk.of_vc Try.func36 rfl (Try.call36 _) ?_
  (conv => whnf); refine pures (span_p 0 255 (by decide) (by decide) H) fun H1 ha1 => ?_
  rw [spanS_full]
  have hs1 := old_size ha1
  (conv => whnf); refine vbuild1 sl29 (setL (BitVec.allOnes 256)) rfl rfl (by decide) (by decide) ?_
  intro b2 H2 hb2 hs2 hk2 ha2
  (conv => whnf); refine vbuild1 sl35 [.int .i64 1] rfl rfl (by decide) (by decide) ?_
  intro b3 H3 hb3 hs3 hk3 ha3
  (conv => whnf); refine vbuild1 sl35 [.int .i64 0] rfl rfl (by decide) (by decide) ?_
  intro b4 H4 hb4 hs4 hk4 ha4
  (conv => whnf); refine vbuild2 sl23 [.slice (some ⟨b3, 0, none⟩) 1 1] [.slice (some ⟨b4, 0, none⟩) 1 1] rfl rfl rfl rfl (by decide) (by decide) ?_
  intro b5 H5 hb5 hs5 hk5 ha5
  (conv => whnf); refine vbuild2 sl24 [.bool false] [.bool true] rfl rfl rfl rfl (by decide) (by decide) ?_
  intro b6 H6 hb6 hs6 hk6 ha6
  have hk5' := hk5.agr ha6 (show b5 < b6 by omega)
  have hk4' := (hk4.agr ha5 (show b4 < b5 by omega)).agr ha6 (show b4 < b6 by omega)
  have hk3' := ((hk3.agr ha4 (show b3 < b4 by omega)).agr ha5 (show b3 < b5 by omega)).agr ha6 (show b3 < b6 by omega)
  have hk2' := (((hk2.agr ha3 (show b2 < b3 by omega)).agr ha4 (show b2 < b4 by omega)).agr ha5 (show b2 < b5 by omega)).agr ha6 (show b2 < b6 by omega)
  have hA6 : Agr (Old H) H H6 := ((((ha1.trans (ha2.mono fun k hk => by unfold Old at hk; omega)).trans (ha3.mono fun k hk => by unfold Old at hk; omega)).trans (ha4.mono fun k hk => by unfold Old at hk; omega)).trans (ha5.mono fun k hk => by unfold Old at hk; omega)).trans (ha6.mono fun k hk => by unfold Old at hk; omega)
  have i1 : SlD tI (Fresh H H6) H6 (some ⟨b3, 0, none⟩) 1 [1] := SlD.ofBlk hk3' ⟨by omega, by omega⟩ (Ty.reps_one ⟨rfl, inI64 (by decide)⟩) rfl (by decide)
  have i2 : SlD tI (Fresh H H6) H6 (some ⟨b4, 0, none⟩) 1 [0] := SlD.ofBlk hk4' ⟨by omega, by omega⟩ (Ty.reps_one ⟨rfl, inI64 (by decide)⟩) rfl (by decide)
  (conv => whnf)
  refine VCall.mk (new_c (some ⟨b2, 0, none⟩) (some ⟨b5, 0, none⟩) (some ⟨b6, 0, none⟩) 1 2 2 [BitVec.allOnes 256] [[1], [0]] [false, true] (Fresh H H6) H6 (fun k hk => hk.2)
    (SlD.ofBlk hk2' ⟨by omega, by omega⟩ (Ty.reps_one rfl) rfl (by decide)) (SlD.ofBlk hk5' ⟨by omega, by omega⟩ ⟨[_], [_], rfl, ⟨_, _, rfl, i1⟩, Ty.reps_one ⟨_, _, rfl, i2⟩⟩ rfl (by decide)) (SlD.ofBlk hk6 ⟨by omega, by omega⟩ ⟨[_], [_], rfl, rfl, Ty.reps_one rfl⟩ rfl (by decide))) ?_
  rintro v7 H7 ⟨ha7, hs7, hv7⟩
  rw [show soundB [BitVec.allOnes 256] [[1], [0]] [false, true].length = true from two_sound] at hv7
  (conv => whnf)
  exact ⟨hA6.trans (ha7.mono fun k hk => by unfold Old at *; omega), by omega, hv7.mono fun k hk => ⟨by omega, hk.2⟩⟩

theorem speaks_p (H : Heap) : Pure Try.prog 14 #[] H (.bool true) := by
  refine FnOk.of_vc Try.func14 rfl (Try.call14 _) ?_
  (conv => whnf); refine VCall.mk (two_c H) ?_
  rintro v1 H1 ⟨ha1, hs1, pb, rfl, ha⟩
  have hv : AutoV (Fresh H H1) H1 (.pointer (some ⟨pb, 0, none⟩)) (some twoM) := ⟨pb, rfl, ha⟩
  (conv => whnf); refine pneqS ptrA ?_
  (conv => whnf); refine pures (states_p hv) fun H2 ha2 => ?_
  have hv2 := hv.frame (ha2.mono fun k hk => hk.2)
  rw [two_n]
  (conv => whnf); refine pures (accepts_p (fun k hk => old_lt ha2 hk.2) hv2 (by decide)) fun H3 ha3 => ?_
  have hv3 := hv2.frame (ha3.mono fun k hk => old_lt ha2 hk.2)
  rw [two_a]
  (conv => whnf); refine pures (accepts_p (fun k hk => old_lt ha3 (old_lt ha2 hk.2)) hv3 (by decide)) fun H4 ha4 => ?_
  rw [two_ab]
  (conv => whnf)
  exact ⟨rfl, ((ha1.trans (ha2.mono fun k hk => old_lt ha1 hk)).trans (ha3.mono fun k hk => old_lt ha2 (old_lt ha1 hk))).trans (ha4.mono fun k hk => old_lt ha3 (old_lt ha2 (old_lt ha1 hk)))⟩

theorem nil_c (s : ByteArray) (q : Int) (b : Nat) (hb : b < 256) (hs : s.size ≤ maxLen) (H : Heap) : Pure Try.prog 7 #[.string s, .int .i64 q, .int .u8 (b : Int)] H (.bool true) := by
  have hn : ∀ H, AutoV (fun _ => False) H (.pointer none) none := fun H => rfl
  refine FnOk.of_vc Try.func7 rfl (Try.call7 _) ?_
  (conv => whnf); refine pures (speaks_p H) fun H1 ha1 => ?_
  have hlive : liveM none s = 0 := rfl
  by_cases hq : q = 0
  · subst hq
    have hst : stepM none 0 b = 0 := rfl
    (conv => whnf); refine VSeq.run ?_
    (conv => whnf); refine VCall.mk (cells_c (fun k hk => hk.elim) (hn H1)) ?_
    rintro v2 H2 ⟨ha2, hs2, ac, cc, rfl, hc⟩
    (conv => whnf); refine VDraw.quiet (Old H2) rfl (by kernel_rfl) ?_
    have hc2 := hc.mono (S' := Old H2) fun k hk => hk.2
    (conv => whnf); refine ixrn (i := 0) (x := BitVec.allOnes 256) sl29 hc2 rfl rfl rfl ?_
    rintro b3 o3 cs3 hSb3 hcells3 rfl
    (conv => whnf); refine ldN (cs := setL (BitVec.allOnes 256)) ag41 hcells3 hSb3 ?_
    (conv => whnf); refine pureq (fun H' hH' => span_p 0 255 (by decide) (by decide) H') ?_
    rw [spanS_full]
    (conv => whnf); refine set_neq (BitVec.allOnes 256) (BitVec.allOnes 256) ?_
    rw [show (!decide (BitVec.allOnes 256 = BitVec.allOnes 256)) = false by simp]
    (conv => whnf); refine pureq (fun H' hH' => states_p (hn H')) ?_
    (conv => whnf); refine pureq (fun H' hH' => step_p (b := b) (fun k hk => hk.elim) (hn H') hb) ?_
    rw [hst]
    (conv => whnf); refine pureq (fun H' hH' => final_p (hn H')) ?_
    (conv => whnf)
    intro H3 ha3
    (conv => whnf); refine pures (accepts_p (fun k hk => hk.elim) (hn H3) hs) fun H4 ha4 => ?_
    (conv => whnf); refine pures (live_p (fun k hk => hk.elim) (hn H4) hs) fun H5 ha5 => ?_
    rw [hlive]
    (conv => whnf); refine pures (empty_p (hn H5)) fun H6 ha6 => ?_
    (conv => whnf); refine VCall.mk (two_c H6) ?_
    rintro v7 H7 ⟨ha7, hs7, hv7⟩
    (conv => whnf); refine pures (empty_p hv7) fun H8 ha8 => ?_
    rw [two_alive]
    (conv => whnf)
    have a2 := ha1.trans (ha2.mono fun k hk => old_lt ha1 hk)
    have a3 := a2.trans (ha3.mono fun k hk => old_lt a2 hk)
    have a4 := a3.trans (ha4.mono fun k hk => old_lt a3 hk)
    have a5 := a4.trans (ha5.mono fun k hk => old_lt a4 hk)
    have a6 := a5.trans (ha6.mono fun k hk => old_lt a5 hk)
    have a7 := a6.trans (ha7.mono fun k hk => old_lt a6 hk)
    exact ⟨rfl, a7.trans (ha8.mono fun k hk => old_lt a7 hk)⟩
  · have hst : stepM none q b = -1 := by
      unfold stepM
      rw [if_pos (by simp only [stN]; omega)]
    (conv => whnf); refine VSeq.run ?_
    (conv => whnf); refine VIte.mk (fun h => absurd (of_decide_eq_true h) hq) (fun h => ?_)
    (conv => whnf); refine VCall.mk (cells_c (fun k hk => hk.elim) (hn H1)) ?_
    rintro v2 H2 ⟨ha2, hs2, ac, cc, rfl, hc⟩
    (conv => whnf); refine VDraw.quiet (Old H2) rfl (by kernel_rfl) ?_
    have hc2 := hc.mono (S' := Old H2) fun k hk => hk.2
    (conv => whnf); refine ixrn (i := 0) (x := BitVec.allOnes 256) sl29 hc2 rfl rfl rfl ?_
    rintro b3 o3 cs3 hSb3 hcells3 rfl
    (conv => whnf); refine ldN (cs := setL (BitVec.allOnes 256)) ag41 hcells3 hSb3 ?_
    (conv => whnf); refine pureq (fun H' hH' => span_p 0 255 (by decide) (by decide) H') ?_
    rw [spanS_full]
    (conv => whnf); refine set_neq (BitVec.allOnes 256) (BitVec.allOnes 256) ?_
    rw [show (!decide (BitVec.allOnes 256 = BitVec.allOnes 256)) = false by simp]
    (conv => whnf); refine pureq (fun H' hH' => states_p (hn H')) ?_
    (conv => whnf); refine pureq (fun H' hH' => step_p (b := b) (fun k hk => hk.elim) (hn H') hb) ?_
    rw [hst]
    (conv => whnf); refine pureq (fun H' hH' => final_p (hn H')) ?_
    (conv => whnf)
    intro H3 ha3
    (conv => whnf); refine pures (accepts_p (fun k hk => hk.elim) (hn H3) hs) fun H4 ha4 => ?_
    (conv => whnf); refine pures (live_p (fun k hk => hk.elim) (hn H4) hs) fun H5 ha5 => ?_
    rw [hlive]
    (conv => whnf); refine pures (empty_p (hn H5)) fun H6 ha6 => ?_
    (conv => whnf); refine VCall.mk (two_c H6) ?_
    rintro v7 H7 ⟨ha7, hs7, hv7⟩
    (conv => whnf); refine pures (empty_p hv7) fun H8 ha8 => ?_
    rw [two_alive]
    (conv => whnf)
    have a2 := ha1.trans (ha2.mono fun k hk => old_lt ha1 hk)
    have a3 := a2.trans (ha3.mono fun k hk => old_lt a2 hk)
    have a4 := a3.trans (ha4.mono fun k hk => old_lt a3 hk)
    have a5 := a4.trans (ha5.mono fun k hk => old_lt a4 hk)
    have a6 := a5.trans (ha6.mono fun k hk => old_lt a5 hk)
    have a7 := a6.trans (ha7.mono fun k hk => old_lt a6 hk)
    exact ⟨rfl, a7.trans (ha8.mono fun k hk => old_lt a7 hk)⟩

end Go.Proofs.Ytpnnedkpbmilkaa
