/- Parts of the proof: PMin10, PMin11, PCan10, POdd7, PNews, PCel3, PCan11, PTab2, PAut07, PMl1, PMl2, PPow5, PLaid5, PPow7, VOpen, POpenS, POpen5, VTop, PTabIn -/
import Derived.Test.YthomdogheamfpaaDoorKN5
import Derived.Test.YthomdogheamfpaaDoorKN4
import Derived.Test.YthomdogheamfpaaDoorKN3
import Derived.Test.YthomdogheamfpaaDoorRows
import Derived.Test.YthomdogheamfpaaDoorKN2
import Derived.Lib.LaidTab
import Derived.OpenShut
import Derived.ChangeSame
import Derived.Deep.DeepHandedRow
import Derived.ProofKit
import Derived.Test.YthomdogheamfpaaDoorKN1
import Derived.JoinedCond
import Derived.WideKeyArgs
/- minim.first: the walk. -/
set_option linter.unusedVariables false
set_option linter.unusedSimpArgs false
set_option maxRecDepth 100000
namespace Go.Proofs.YthomdogheamfpaaDoor
open Go.VC
attribute [local irreducible] mRun gRun atRun
def askG (ask : Bool → Bool → Bool) (a b : Option AM) : Gr := ⟨fun n c => [⟨0, stepM a n.x c, stepM b n.y c⟩], fun n => ask (finM a n.x) (finM b n.y)⟩
section
variable {ask : Bool → Bool → Bool} {a b : Option AM}
theorem ask_ok (ha : StepOk a) (hb : StepOk b) {by_ : List Nat} (h1 : ∀ b ∈ by_, b < 256) (h2 : by_.length ≤ 256) : GraphOk (askG ask a b) by_ 4294967296 1 := by
  have na := ha.n2
  have nb := hb.n2
  refine graphOk (MeetR a b) (fun n => n.x.toNat * 65536 + n.y.toNat) ⟨rfl, ha.zero, hb.zero⟩ (fun n c t h hc ht => ?_) (fun n h => ?_) (fun n h => ?_) (fun n m h k e => ?_) (fun n c => Nat.le_refl _) (by decide) (by decide) h1 h2
  · obtain rfl := List.mem_singleton.1 ht
    exact ⟨rfl, ha.step _ _ h.2.1 hc, hb.step _ _ h.2.2 hc⟩
  · obtain ⟨k1, ⟨k2, k3⟩, k4, k5⟩ := h
    refine ⟨?_, ?_, ?_⟩ <;> unfold inK <;> simp only [IntKind.min, IntKind.max, IntKind.signed, IntKind.bits] <;> constructor <;> simp <;> omega
  · obtain ⟨k1, ⟨k2, k3⟩, k4, k5⟩ := h
    omega
  · obtain ⟨k1, ⟨k2, k3⟩, k4, k5⟩ := h
    obtain ⟨l1, ⟨l2, l3⟩, l4, l5⟩ := k
    obtain ⟨s, x, y⟩ := n
    obtain ⟨s', x', y'⟩ := m
    simp only at *
    obtain ⟨rfl, rfl, rfl⟩ : s = s' ∧ x = x' ∧ y = y' := ⟨by omega, by omega, by omega⟩
    rfl
theorem ask_reach (sa : StepOk a) (sb : StepOk b) {by_ : List Nat} (h1 : ∀ b ∈ by_, b < 256) : ∀ n, Reach (askG ask a b) by_ root n → MeetR a b n := fun n hn => by
  induction hn with
  | refl => exact ⟨rfl, sa.zero, sb.zero⟩
  | step _ hb ht ih =>
    obtain rfl := List.mem_singleton.1 ht
    exact ⟨rfl, sa.step _ _ ih.2.1 (h1 _ hb), sb.step _ _ ih.2.2 (h1 _ hb)⟩
theorem meetR_pk (sa : StepOk a) (sb : StepOk b) {n : Nd} (h : MeetR a b n) : PkOk (n.x, n.y) := by
  obtain ⟨k1, ⟨k2, k3⟩, k4, k5⟩ := h
  have na := sa.n2
  have nb := sb.n2
  exact ⟨kint ⟨by simp only; omega, by simp only; omega⟩, kint ⟨by simp only; omega, by simp only; omega⟩⟩
end
theorem seen_put {F : List NW} {W : List (Int × Nat)} {n : Nd} {w : List Nat} {x : Int × Nat} (hl : W.length = F.length) (hno : ∀ y ∈ F, (y.1.x, y.1.y) ≠ (n.x, n.y)) : put (seenW F W) (n.x, n.y) (some (wyV x)) = seenW (F ++ [(n, w)]) (W ++ [x]) := by
  funext z
  unfold put seenW
  rw [List.findIdx?_append]
  by_cases hz : z = (n.x, n.y)
  · subst hz
    have : F.findIdx? (fun x => decide ((x.1.x, x.1.y) = (n.x, n.y))) = none := by
      rw [List.findIdx?_eq_none_iff]
      intro y hy
      exact decide_eq_false (hno y hy)
    rw [if_pos rfl, this]
    simp [List.findIdx?_cons, ← hl]
  · rw [if_neg hz]
    cases h : F.findIdx? fun x => decide ((x.1.x, x.1.y) = z) with
    | some i =>
      have hi : i < W.length := by
        rw [hl]
        exact (List.findIdx?_eq_some_iff_getElem.1 h).1
      simp [List.getElem?_append_left hi]
    | none =>
      have : ¬ (n.x, n.y) = z := fun e => hz e.symm
      simp [List.findIdx?_cons, this]
theorem seen_none {F : List NW} {W : List (Int × Nat)} {z : Int × Int} (hno : ∀ y ∈ F, (y.1.x, y.1.y) ≠ z) : seenW F W z = none := by
  unfold seenW
  have : F.findIdx? (fun x => decide ((x.1.x, x.1.y) = z)) = none := by
    rw [List.findIdx?_eq_none_iff]
    intro y hy
    exact decide_eq_false (hno y hy)
  rw [this]
  rfl
theorem links_start : Links [(root, [])] [(-1, 0)] := by
  refine ⟨rfl, by simp, fun x hx => ?_, rfl, fun i y hy => ?_⟩
  · rw [List.mem_singleton] at hx
    subst hx
    rfl
  · cases i with
    | zero => cases hy; exact .inl ⟨rfl, rfl⟩
    | succ i => simp at hy
theorem Links.apart {F : List NW} {W : List (Int × Nat)} (h : Links F W) {t : Nd} (ht : t.s = 0) (hno : ∀ y ∈ F, y.1 ≠ t) : ∀ y ∈ F, (y.1.x, y.1.y) ≠ (t.x, t.y) := fun y hy e => by
  refine hno y hy ?_
  have h0 := h.s0 y hy
  obtain ⟨⟨s, x, y'⟩, w⟩ := y
  obtain ⟨s', x', y''⟩ := t
  injection e with e1 e2
  simp only at *
  subst e1; subst e2; subst h0; subst ht
  rfl
theorem Links.add {F : List NW} {W : List (Int × Nat)} (h : Links F W) {i c : Nat} {x : NW} {t : Nd} (hx : F[i]? = some x) (hc : c < 256) (ht : t.s = 0) (hno : ∀ y ∈ F, y.1 ≠ t) : Links (F ++ [(t, x.2 ++ [c])]) (W ++ [((i : Int), c)]) := by
  have hil := (List.getElem?_eq_some_iff.1 hx).1
  have h0 := h.len
  refine ⟨by simp [h0], ?_, fun y hy => ?_, by rw [List.getElem?_append_left (by omega)]; exact h.zero, fun m y hy => ?_⟩
  · rw [List.map_append]
    refine List.nodup_append.2 ⟨h.nd, by simp, fun p hp q hq => ?_⟩
    simp only [List.map_cons, List.map_nil, List.mem_singleton] at hq
    subst hq
    obtain ⟨y, hy, rfl⟩ := List.mem_map.1 hp
    exact h.apart ht hno y hy
  · rcases List.mem_append.1 hy with hy | hy
    · exact h.s0 y hy
    · rw [List.mem_singleton] at hy
      subst hy
      exact ht
  · by_cases hm : m < F.length
    · rw [List.getElem?_append_left hm] at hy
      rcases h.link m y hy with h1 | ⟨j, d, x', h1, h2, h3, h4⟩
      · exact .inl h1
      · exact .inr ⟨j, d, x', by rw [List.getElem?_append_left (by omega)]; exact h1, h2, by rw [List.getElem?_append_left (by omega)]; exact h3, h4⟩
    · have hm2 := (List.getElem?_eq_some_iff.1 hy).1
      simp only [List.length_append, List.length_singleton] at hm2
      obtain rfl : m = F.length := by omega
      simp at hy
      subst hy
      refine .inr ⟨i, c, x, ?_, hil, by rw [List.getElem?_append_left hil]; exact hx, rfl, hc⟩
      rw [← h0]; simp
theorem pair_z7 : (Tryd.prog.info? 179).bind (·.zero) = some (pkV (0, 0)) := by kernel_rfl
set_option maxHeartbeats 32000000 in
theorem first_m {S : Nat → Prop} {H : Heap} {va vb : Value} {a b : Option AM} {ask : Bool → Bool → Bool} {f : FuncId} (hS : ∀ k, S k → k < H.size) (hva : AutoV S H va a) (hvb : AutoV S H vb b) (hca : ∃ ls, CellsOk a ls) (hcb : ∃ ls, CellsOk b ls) (hf : ∀ (G : Heap) (x y : Bool), Pure Tryd.prog f #[.bool x, .bool y] G (.bool (ask x y))) :
    FnOk Tryd.prog 61 #[va, vb, .func (.func f) #[] #[]] H fun v H' => Agr (Old H) H H' ∧ ∃ w ok, v = .tuple #[.string (bA w), .bool ok] ∧ FirstR (askG ask a b) w ok := by
  have sa := hva.steps
  have sb := hvb.steps
  have hla := cells_le hva
  have hlb := cells_le hvb
  have hpb : 0 < (cellsM b).length := by
    obtain ⟨ls, h⟩ := hcb
    exact cells_pos h
  have hVA : ∀ {G : Heap}, Agr (Old H) H G → AutoV S G va a := fun h => hva.frame (h.mono hS)
  have hVB : ∀ {G : Heap}, Agr (Old H) H G → AutoV S G vb b := fun h => hvb.frame (h.mono hS)
  have up : ∀ {G : Heap}, Agr (Old H) H G → ∀ k, S k → k < G.size := fun h k hk => old_lt h (hS k hk)
  refine FnOk.of_vc Tryd.func61 rfl (Tryd.call61 _) ?_
  (conv => whnf); refine VCall.mk (cells_o hS hva) ?_
  rintro _ H1 ⟨ha1, -, hw1⟩
  obtain ⟨aa, ac, rfl, st1⟩ := (St.nil H).got ha1 hw1
  (conv => whnf); refine VCall.mk (cells_o (up st1.old) (hVB st1.old)) ?_
  rintro _ H2 ⟨ha2, -, hw2⟩
  obtain ⟨ba, bc, rfl, st2⟩ := st1.got ha2 hw2
  (conv => whnf); refine appSS st2 0 1 sl83 rfl rfl hpb tSet_ones (by omega) (by decide) fun a3 c3 H3 st3 _ => ?_
  obtain ⟨sets, hsets⟩ : ∃ sets, sets = cellsM a ++ cellsM b := ⟨_, rfl⟩
  have hsl : (cellsM a).length + (cellsM b).length = sets.length := by rw [hsets, List.length_append]
  rw [hsl, ← hsets] at st3
  rw [hsl]
  (conv => whnf); refine VCall.mk (clsAtoms_c (S := Old H3) (fun k hk => hk) (st3.view 0 rfl) (by omega)) ?_
  rintro _ H4 ⟨ha4, a4, c4, rfl, h4⟩
  have st4 := st3.call ha4
  have hal := reps_len sets
  (conv => whnf); refine VCall.mk (reps7_c (S := Old H4) (fun k hk => hk) h4 hal) ?_
  rintro _ H5 ⟨ha5, ra, rc, rfl, hw5⟩
  obtain ⟨ra', rc', e5, st5⟩ := st4.got ha5 hw5
  injection e5 with e51 e52 e53
  subst e51; subst e53
  have hlt8 := reps_lt sets
  have hup2 : (repsM sets).Pairwise (· < ·) := by
    rw [reps_same (s := sets) (t := sets) fun x => Iff.rfl]
    exact atRun_up sets 256
  have hcov2 := reps_cov2 (os := [a, b]) (fun o ho => by
    rcases List.mem_cons.1 ho with rfl | ho
    · exact hca
    · rw [List.mem_singleton] at ho; subst ho; exact hcb) (sets := sets) (fun o ho s hs => by
    rw [hsets]
    rcases List.mem_cons.1 ho with rfl | ho
    · exact List.mem_append.2 (.inl hs)
    · rw [List.mem_singleton] at ho; subst ho; exact List.mem_append.2 (.inr hs))
  have hcov : ∀ c, c < 256 → ∃ r ∈ repsM sets, r ≤ c ∧ ∀ n, (askG ask a b).next n r = (askG ask a b).next n c := fun c hc => by
    obtain ⟨r, hr, hrc, hall⟩ := hcov2 c hc
    refine ⟨r, hr, hrc, fun n => ?_⟩
    show [_] = [_]
    rw [hall a (by simp), hall b (by simp)]
  have hbl : (atomsM sets).length = (repsM sets).length := by unfold repsM; rw [List.length_map]
  have hbi : bsI (atomsM sets) = intsN (repsM sets) := rfl
  have hil : (intsN (repsM sets)).length = (repsM sets).length := List.length_map _
  rw [hbi, hil] at st5
  rw [hbl] at hal ⊢
  clear hbl hbi hcov2 hil
  generalize repsM sets = by_ at *
  have hg : GraphOk (askG ask a b) by_ 4294967296 1 := ask_ok sa sb hlt8 hal
  have hmr := ask_reach (ask := ask) sa sb hlt8
  have hgb : ∀ (k c : Nat), by_[k]? = some c → (intsN by_)[k]? = some (c : Int) := fun k c h => by unfold intsN; rw [List.getElem?_map, h]; rfl
  (conv => whnf); refine mmakeW (Ok := PkOk) (enc := pkV) fun mb H6 hb6 hs6 hm6 ha6 => ?_
  have st6 := st5.mapNewW hb6 hs6 hm6 ha6
  (conv => whnf); refine vbuildS Tryd.underlying179 rfl (pkV (0, 0)) pair_z7 (pkL (0, 0)) rfl ?_
  (conv => whnf); refine vbuildS Tryd.underlying181 rfl (wyV (0, 0)) way_z7 (wyL (-1, 0)) rfl ?_
  have hput0 : put (fun _ : Int × Int => (none : Option Value)) (0, 0) (some (wyV (-1, 0))) = seenW [(root, [])] [(-1, 0)] := seen_put (F := []) (W := []) (n := root) (w := []) rfl fun y hy => by cases hy
  have hz0 : PkOk (0, 0) := ⟨kint ⟨by decide, by decide⟩, kint ⟨by decide, by decide⟩⟩
  (conv => whnf); refine mputPW (a := ((0 : Int), (0 : Int))) st6 3 mapPk keyPk hz0 rfl hput0 fun H7 st7 => ?_
  (conv => whnf); refine vbuildS Tryd.underlying179 rfl (pkV (0, 0)) pair_z7 (pkL (0, 0)) rfl ?_
  (conv => whnf); refine vbuild1 sl183 (pkL (0, 0)) rfl rfl (by decide) (by decide) ?_
  intro q8 H8 hq8 hs8 hb8 ha8
  have st8 := (st7.new (T := tPk) (n := 1) (xs := [root]) hq8 hs8 hb8 ha8 (Ty.reps_one ⟨rfl, rfl⟩) rfl (by unfold maxLen; omega)).pick [2, 3, 4] (by decide)
  have st9 : St H H8 [pS tU8 tByt ra by_.length rc (intsN by_), pMW PkOk pkV mb (seenW [(root, [])] [(-1, 0)]), pS tPk 179 (some ⟨q8, 0, none⟩) 1 1 ([((root, []) : NW)].map (·.1))] := st8
  clear st8 st7 st6 st5 st4 st3 st2 st1 hput0
  (conv => whnf)
  refine VLoop.mk [10, 11] (fun x : Nat × List NW × List (Int × Nat) × Option Addr × Nat => match x with | (i, F, W, oa, oc) => [.slice oa F.length oc, .int .i64 (i : Int)])
    (fun x H9 => match x with | (i, F, W, oa, oc) => i ≤ F.length ∧ BfsOk (askG ask a b) by_ root F i 0 ∧ (∀ (m : Nat) (y : NW), m < i → F[m]? = some y → (askG ask a b).ends y.1 = false) ∧ Links F W ∧ St H H9 [pS tU8 tByt ra by_.length rc (intsN by_), pMW PkOk pkV mb (seenW F W), pS tPk 179 oa F.length oc (F.map (·.1))]) (fun x _ => 4294967296 - x.1) ?_ ?_
  · (conv => whnf)
    exact ⟨(0, [(root, [])], [(-1, 0)], some ⟨q8, 0, none⟩, 1), rfl, Nat.zero_le _, BfsOk.start, fun m y hm => absurd hm (Nat.not_lt_zero _), links_start, st9⟩
  · clear st9
    rintro ⟨i, F, W, oa, oc⟩ H9 junk9 ⟨hi, hbfs, hno, hL, st9⟩
    have hrch : ∀ (F' : List NW) (i' k' : Nat), BfsOk (askG ask a b) by_ root F' i' k' → ∀ x ∈ F', Reach (askG ask a b) by_ root x.1 := fun F' i' k' h x hx => to_reach .refl (h.ok x hx).1 (h.ok x hx).2
    have hFM : ∀ (F' : List NW) (i' k' : Nat), BfsOk (askG ask a b) by_ root F' i' k' → F'.length ≤ 4294967296 := fun F' i' k' h => by
      rw [← List.length_map (f := (·.1))]
      exact hg.card _ h.nd fun n hn => by
        obtain ⟨x, hx, rfl⟩ := List.mem_map.1 hn
        exact hrch F' i' k' h x hx
    have hFM7 := hFM F i 0 hbfs
    (conv => whnf); refine VIte.mk (fun hz => ?_) (fun hz => ?_) <;> simp only [decide_eq_true_eq, decide_eq_false_iff_not] at hz
    · obtain ⟨y, hy⟩ := get_some (l := F) (k := i) (by omega)
      have hyr := hrch F i 0 hbfs y (List.mem_of_getElem? hy)
      have hym := hmr y.1 hyr
      have hy1 : (F.map (·.1))[i]? = some y.1 := by rw [List.getElem?_map, hy]; rfl
      (conv => whnf); refine ixO (j := i) sl183 st9 2 rfl hy1 rfl ?_
      rintro b10 o10 c10 hS10 hc10 ⟨-, rfl⟩
      (conv => whnf); refine ldN (cs := pkL (y.1.x, y.1.y)) ag179 hc10 trivial ?_
      (conv => whnf); refine valloc (pkV (0, 0)) (pkL (0, 0)) pair_z7 rfl ?_
      intro p11 H11 hp11 hs11 hb11 ha11
      have st11 := st9.box hp11 hs11 hb11 ha11
      (conv => whnf); refine stNB (cs := pkL (y.1.x, y.1.y)) st11 3 rfl rfl (Nat.le_refl _) rfl fun H12 st12 => ?_
      rw [splice_all (show (pkL (y.1.x, y.1.y)).length = (pkL (0, 0)).length from rfl)] at st12
      have q12 := st12.blk 3 rfl
      (conv => whnf); refine VDraw.heldZ (Old H12) [] (sq [0,1,2,3,5,6,7] (.f 4 (.f 8 (.f 9 .e)))) rfl (by kernel_rfl) ?_
      (conv => whnf); refine VC.fa fl179_0 ?_
      (conv => whnf); refine ld1 (v := .int .i64 y.1.x) ct3 (by rw [q12.cell]; rfl) q12.lt ?_
      (conv => whnf); refine VC.fa fl179_1 ?_
      (conv => whnf); refine ld1 (v := .int .i64 y.1.y) ct3 (by rw [q12.cell]; rfl) q12.lt ?_
      (conv => whnf); refine pures (final_p (hVA st12.old)) fun H13 ha13 => ?_
      have st13 := st12.call ha13
      refine ⟨ha13, ?_⟩
      (conv => whnf); refine pures (final_p (hVB st13.old)) fun H14 ha14 => ?_
      have st14 := st13.call ha14
      have gg14 := ha13.trans (ha14.mono fun k hk => old_lt ha13 hk)
      refine ⟨gg14, ?_⟩
      (conv => whnf); refine pures (hf H14 _ _) fun H15 ha15 => ?_
      have st15 := st14.call ha15
      refine ⟨gg14.trans (ha15.mono fun k hk => old_lt gg14 hk), ?_⟩
      have hends : (askG ask a b).ends y.1 = ask (finM a y.1.x) (finM b y.1.y) := rfl
      cases he : ask (finM a y.1.x) (finM b y.1.y)
      case true =>
        (conv => whnf); refine pures (spell_p (st15.view 2 rfl) (st15.mapW 1 rfl) hL hFM7 (fun x hx => meetR_pk sa sb (hmr x.1 (hrch F i 0 hbfs x hx))) hy) fun H16 ha16 => ?_
        have st16 := st15.call ha16
        (conv => whnf)
        exact ⟨st16.old, y.2, true, rfl, And.intro (fun _ => hbfs.found hcov hlt8 hy (hends.trans he) hno) (fun h => by cases h)⟩
      case false =>
        (conv => whnf)
        refine VLoop.mk [10, 57] (fun x : Nat × List NW × List (Int × Nat) × Option Addr × Nat => match x with | (k, F', W', oa, oc) => [.slice oa F'.length oc, .int .i64 (k : Int)])
          (fun x H9 => match x with | (k, F', W', oa, oc) => k ≤ by_.length ∧ BfsOk (askG ask a b) by_ root F' i k ∧ (∀ m, m ≤ i → F'[m]? = F[m]?) ∧ Links F' W' ∧ St H H9 [pS tU8 tByt ra by_.length rc (intsN by_), pMW PkOk pkV mb (seenW F' W'), pS tPk 179 oa F'.length oc (F'.map (·.1)), pB 179 p11 (pkL (y.1.x, y.1.y))]) (fun x _ => by_.length - x.1) ?_ ?_
        · (conv => whnf)
          exact ⟨(0, F, W, oa, oc), rfl, Nat.zero_le _, hbfs, fun _ _ => rfl, hL, st15⟩
        · clear st15 st14 st13 st12 st11 st9 gg14 ha13 ha14 ha15 q12
          rintro ⟨k, F9, W9, oa9, oc9⟩ H16 junk16 ⟨hk, hbfs9, hpre, hL9, st16⟩
          have hy9 : F9[i]? = some y := by rw [hpre i (Nat.le_refl _)]; exact hy
          have hi9 := (List.getElem?_eq_some_iff.1 hy9).1
          have hFM9 := hFM F9 i k hbfs9
          (conv => whnf); refine VIte.mk (fun hz2 => ?_) (fun hz2 => ?_) <;> simp only [decide_eq_true_eq, decide_eq_false_iff_not] at hz2
          · obtain ⟨c, hc⟩ := get_some (l := by_) (k := k) (by omega)
            have hcm := List.mem_of_getElem? hc
            have hc8 := hlt8 c hcm
            (conv => whnf); refine VSeq.run ?_
            (conv => whnf); refine ixO (j := k) sl85 st16 0 rfl (hgb k c hc) rfl ?_
            rintro b17 o17 c17 hS17 hc17 ⟨rfl, -⟩
            (conv => whnf); refine ld1 ct5 hc17.one trivial ?_
            have htr : Reach (askG ask a b) by_ root ⟨0, stepM a y.1.x c, stepM b y.1.y c⟩ := hyr.step hcm (List.mem_singleton.2 rfl)
            have htok := meetR_pk sa sb (hmr _ htr)
            have q16 := st16.blk 3 rfl
            have sx0 := st16
            have gg0 : Agr (Old H16) H16 H16 := Agr.refl _ _
            (conv => whnf); refine VDraw.cut [15] (fun p : Nat => [.pointer (some ⟨p, 0, none⟩)]) (fun p H' => St H H' [pS tU8 tByt ra by_.length rc (intsN by_), pMW PkOk pkV mb (seenW F9 W9), pS tPk 179 oa9 F9.length oc9 (F9.map (·.1)), pB 179 p11 (pkL (y.1.x, y.1.y)), pB 179 p (pkL (stepM a y.1.x c, stepM b y.1.y c))]) ?_ ?_
            · (conv => whnf); refine VDraw.heldZ (Old H16) [12] (sq [0,1,2,3,5,6,7,8] (.b 4 (.b 9 (sq [10] (.f 11 (.f 12 .e))) 11 (.f 9 (sq [10] (.f 12 .e)))) 11 (.f 4 (.f 9 (sq [10] (.f 12 .e)))))) rfl (by kernel_rfl) ?_
              (conv => whnf); refine VC.fa fl179_0 ?_
              (conv => whnf); refine ld1 (v := .int .i64 y.1.x) ct3 (by rw [q16.cell]; rfl) q16.lt ?_
              (conv => whnf); refine VC.fa fl179_1 ?_
              (conv => whnf); refine ld1 (v := .int .i64 y.1.y) ct3 (by rw [q16.cell]; rfl) q16.lt ?_
              (conv => whnf); refine ⟨?_, ?_⟩
              · refine pures (step_p (up sx0.old) (hVA sx0.old) hc8) fun G1 gc1 => ?_
                have sx1 := sx0.call gc1
                have gg1 := gg0.trans (gc1.mono fun k hk => old_lt gg0 hk)
                refine ⟨gg1, ?_⟩
                (conv => whnf); refine ⟨?_, ?_⟩
                · refine pures (step_p (up sx1.old) (hVB sx1.old) hc8) fun G2 gc2 => ?_
                  have sx2 := sx1.call gc2
                  have gg2 := gg1.trans (gc2.mono fun k hk => old_lt gg1 hk)
                  refine ⟨gg2, ?_⟩
                  (conv => whnf); refine vbuildS Tryd.underlying179 rfl (pkV (0, 0)) pair_z7 (pkL (stepM a y.1.x c, stepM b y.1.y c)) rfl ?_
                  (conv => whnf); refine valloc (pkV (0, 0)) (pkL (0, 0)) pair_z7 rfl ?_
                  intro pp G3 gp3 gs3 gb3 ga3
                  have sx3 := sx2.box gp3 gs3 gb3 ga3
                  have gg3 := gg2.trans (ga3.mono fun k hk => by have := old_lt gg2 hk; omega)
                  refine ⟨gg3, ?_⟩
                  (conv => whnf); refine stNB (cs := pkL (stepM a y.1.x c, stepM b y.1.y c)) sx3 4 rfl rfl (Nat.le_refl _) rfl fun G4 sx4 => ?_
                  rw [splice_all (show (pkL (stepM a y.1.x c, stepM b y.1.y c)).length = (pkL (0, 0)).length from rfl)] at sx4
                  (conv => whnf)
                  exact ⟨rfl, pp, rfl, sx4⟩
                · refine valloc (pkV (0, 0)) (pkL (0, 0)) pair_z7 rfl ?_
                  intro pp G2 gp2 gs2 gb2 ga2
                  have sx2 := sx1.box gp2 gs2 gb2 ga2
                  have gg2 := gg1.trans (ga2.mono fun k hk => by have := old_lt gg1 hk; omega)
                  refine ⟨gg2, ?_⟩
                  (conv => whnf); refine pures (step_p (up sx2.old) (hVB sx2.old) hc8) fun G3 gc3 => ?_
                  have sx3 := sx2.call gc3
                  have gg3 := gg2.trans (gc3.mono fun k hk => old_lt gg2 hk)
                  refine ⟨gg3, ?_⟩
                  (conv => whnf); refine vbuildS Tryd.underlying179 rfl (pkV (0, 0)) pair_z7 (pkL (stepM a y.1.x c, stepM b y.1.y c)) rfl ?_
                  (conv => whnf); refine stNB (cs := pkL (stepM a y.1.x c, stepM b y.1.y c)) sx3 4 rfl rfl (Nat.le_refl _) rfl fun G4 sx4 => ?_
                  rw [splice_all (show (pkL (stepM a y.1.x c, stepM b y.1.y c)).length = (pkL (0, 0)).length from rfl)] at sx4
                  (conv => whnf)
                  exact ⟨rfl, pp, rfl, sx4⟩
              · refine valloc (pkV (0, 0)) (pkL (0, 0)) pair_z7 rfl ?_
                intro pp G1 gp1 gs1 gb1 ga1
                have sx1 := sx0.box gp1 gs1 gb1 ga1
                have gg1 := gg0.trans (ga1.mono fun k hk => by have := old_lt gg0 hk; omega)
                refine ⟨gg1, ?_⟩
                (conv => whnf); refine pures (step_p (up sx1.old) (hVA sx1.old) hc8) fun G2 gc2 => ?_
                have sx2 := sx1.call gc2
                have gg2 := gg1.trans (gc2.mono fun k hk => old_lt gg1 hk)
                refine ⟨gg2, ?_⟩
                (conv => whnf); refine pures (step_p (up sx2.old) (hVB sx2.old) hc8) fun G3 gc3 => ?_
                have sx3 := sx2.call gc3
                have gg3 := gg2.trans (gc3.mono fun k hk => old_lt gg2 hk)
                refine ⟨gg3, ?_⟩
                (conv => whnf); refine vbuildS Tryd.underlying179 rfl (pkV (0, 0)) pair_z7 (pkL (stepM a y.1.x c, stepM b y.1.y c)) rfl ?_
                (conv => whnf); refine stNB (cs := pkL (stepM a y.1.x c, stepM b y.1.y c)) sx3 4 rfl rfl (Nat.le_refl _) rfl fun G4 sx4 => ?_
                rw [splice_all (show (pkL (stepM a y.1.x c, stepM b y.1.y c)).length = (pkL (0, 0)).length from rfl)] at sx4
                (conv => whnf)
                exact ⟨rfl, pp, rfl, sx4⟩
            · rintro pp H18 junk18 st18
              clear sx0 gg0
              (conv => whnf); refine ldN (cs := pkL (stepM a y.1.x c, stepM b y.1.y c)) ag179 ((st18.blk 4 rfl).cells fun j v hv => by rw [Nat.zero_add]; exact hv) trivial ?_
              (conv => whnf); refine mlookOkW (a := (stepM a y.1.x c, stepM b y.1.y c)) mapPk keyPk htok (st18.mapW 1 rfl) trivial ?_
              obtain ⟨t, hte⟩ : ∃ t : Nd, t = ⟨0, stepM a y.1.x c, stepM b y.1.y c⟩ := ⟨_, rfl⟩
              have hnext : (askG ask a b).next y.1 c = [t] := by rw [hte]; rfl
              have htx : stepM a y.1.x c = t.x := by rw [hte]
              have hty : stepM b y.1.y c = t.y := by rw [hte]
              have hts : t.s = 0 := by rw [hte]
              rw [← hte] at htr
              rw [htx, hty] at st18 htok ⊢
              clear hte
              by_cases hm : ∃ z ∈ F9, z.1 = t
              · obtain ⟨z, hz3, hzt⟩ := hm
                obtain ⟨m, hmz⟩ := List.getElem?_of_mem hz3
                obtain ⟨w, hw⟩ := get_some (l := W9) (k := m) (by rw [hL9.len]; exact (List.getElem?_eq_some_iff.1 hmz).1)
                have hseen := hL9.seen hmz hw
                rw [hzt] at hseen
                rw [hseen]
                (conv => whnf); refine valloc (wyV (0, 0)) (wyL (0, 0)) way_z7 rfl ?_
                intro p19 H19 hp19 hs19 hb19 ha19
                have st19 := st18.box hp19 hs19 hb19 ha19
                (conv => whnf); refine stNB (cs := wyL w) st19 5 rfl rfl (Nat.le_refl _) rfl fun H20 st20 => ?_
                (conv => whnf); rw [w64 (x := (k : Int) + 1) (by omega) (by omega)]
                exact ⟨rfl, (k + 1, F9, W9, oa9, oc9), rfl, ⟨by omega, hbfs9.add hup2 hy9 hc hnext (.inl ⟨⟨z, hz3, hzt⟩, rfl⟩), hpre, hL9, st20.pick [0, 1, 2, 3] (by decide)⟩, by simp only; omega⟩
              · have hno9 : ∀ z ∈ F9, z.1 ≠ t := fun z hz3 e => hm ⟨z, hz3, e⟩
                have hap := hL9.apart hts hno9
                rw [seen_none (z := (t.x, t.y)) hap]
                have hadd := hbfs9.add (F' := F9 ++ [(t, y.2 ++ [c])]) hup2 hy9 hc hnext (.inr ⟨hno9, rfl⟩)
                have hFM10 := hFM _ _ _ hadd
                rw [List.length_append, List.length_singleton] at hFM10
                (conv => whnf); refine valloc (wyV (0, 0)) (wyL (0, 0)) way_z7 rfl ?_
                intro p19 H19 hp19 hs19 hb19 ha19
                have st19 := st18.box hp19 hs19 hb19 ha19
                (conv => whnf); refine stNB (cs := wyL (0, 0)) st19 5 rfl rfl (Nat.le_refl _) rfl fun H20 st20 => ?_
                (conv => whnf); refine ldN (cs := pkL (t.x, t.y)) ag179 ((st20.blk 4 rfl).cells fun j v hv => by rw [Nat.zero_add]; exact hv) trivial ?_
                (conv => whnf); refine vbuildS Tryd.underlying181 rfl (wyV (0, 0)) way_z7 (wyL ((i : Int), c)) rfl ?_
                (conv => whnf); refine mputPW (a := (t.x, t.y)) st20 1 mapPk keyPk htok rfl (seen_put (w := y.2 ++ [c]) (x := ((i : Int), c)) hL9.len hap) fun H21 st21 => ?_
                (conv => whnf); refine ldN (cs := pkL (t.x, t.y)) ag179 ((st21.blk 4 rfl).cells fun j v hv => by rw [Nat.zero_add]; exact hv) trivial ?_
                (conv => whnf); refine vbuild1 sl183 (pkL (t.x, t.y)) rfl rfl (by decide) (by decide) ?_
                intro q22 H22 hq22 hs22 hb22 ha22
                have hml : (F9.map (·.1)).length = F9.length := List.length_map _
                (conv => whnf); refine appG (ys := [t]) (ds := pkL (t.x, t.y)) (st21.skip hq22 ha22) 2 sl183 rfl (hb22.cells fun j v hv => by rw [Nat.zero_add]; exact hv) (Ty.reps_one ⟨hts, rfl⟩) rfl (by simp [pkL, Value.oneCell']) (by simp only [List.length_singleton, maxLen]; omega) (by simp only [List.length_singleton]; omega) fun a23 c23 H23 st23 _ => ?_
                have e1 : (F9.map (·.1)).length + [t].length = (F9 ++ [(t, y.2 ++ [c])]).length := by simp
                have e2 : F9.map (·.1) ++ [t] = (F9 ++ [(t, y.2 ++ [c])]).map (·.1) := by simp
                rw [e1, e2] at st23
                rw [e1]
                (conv => whnf); rw [w64 (x := (k : Int) + 1) (by omega) (by omega)]
                exact ⟨rfl, (k + 1, F9 ++ [(t, y.2 ++ [c])], W9 ++ [((i : Int), c)], a23, c23), rfl, ⟨by omega, hadd, fun m hm4 => by rw [List.getElem?_append_left (by omega)]; exact hpre m hm4, hL9.add hy9 hc8 hts hno9, st23.pick [0, 1, 2, 3] (by decide)⟩, by simp only; omega⟩
          · have : k = by_.length := Nat.le_antisymm hk (by omega)
            subst this
            (conv => whnf); rw [w64 (x := (i : Int) + 1) (by omega) (by omega)]
            refine ⟨rfl, (i + 1, F9, W9, oa9, oc9), rfl, ⟨hi9, hbfs9.turn (Nat.le_refl _), fun m z hm hz3 => ?_, hL9, st16.pick [0, 1, 2] (by decide)⟩, show 4294967296 - (i + 1) < 4294967296 - i by omega⟩
            rcases Nat.lt_or_eq_of_le (Nat.le_of_lt_succ (show m < i + 1 from hm)) with hm | rfl
            · exact hno m z hm (by rw [← hpre m (Nat.le_of_lt hm)]; exact hz3)
            · rw [hy9] at hz3; cases hz3; exact hends.trans he
    · obtain rfl : i = F.length := by omega
      (conv => whnf)
      exact ⟨st9.old, [], false, rfl, And.intro (fun h => by cases h) fun _ => ⟨rfl, hbfs.none hcov fun y hy => by
        obtain ⟨m, hm⟩ := List.getElem?_of_mem hy
        exact hno m y (List.getElem?_eq_some_iff.1 hm).1 hm⟩⟩
end Go.Proofs.YthomdogheamfpaaDoor
/- minim.Differ, Outside, Same: the walks. -/
set_option linter.unusedVariables false
set_option linter.unusedSimpArgs false
set_option maxRecDepth 100000
namespace Go.Proofs.YthomdogheamfpaaDoor
open Go.VC
attribute [local irreducible] mRun gRun atRun
def xorB (x y : Bool) : Bool := x != y
def outB (x y : Bool) : Bool := x && !y
theorem differ1_p (G : Heap) (x y : Bool) : Pure Tryd.prog 62 #[.bool x, .bool y] G (.bool (xorB x y)) := by
  refine FnOk.of_vc Tryd.func62 rfl (Tryd.call62 _) ?_
  (conv => whnf); refine bneq_b (by kernel_rfl) ?_
  (conv => whnf)
  exact ⟨rfl, Agr.refl _ _⟩
theorem outside1_p (G : Heap) (x y : Bool) : Pure Tryd.prog 65 #[.bool x, .bool y] G (.bool (outB x y)) := by
  refine FnOk.of_vc Tryd.func65 rfl (Tryd.call65 _) ?_
  cases x with
  | false =>
    (conv => whnf)
    exact ⟨rfl, Agr.refl _ _⟩
  | true =>
    (conv => whnf)
    exact ⟨rfl, Agr.refl _ _⟩
section
variable {S : Nat → Prop} {H : Heap} {va vb : Value} {a b : Option AM}
theorem differ_c (hS : ∀ k, S k → k < H.size) (hva : AutoV S H va a) (hvb : AutoV S H vb b) (hca : ∃ ls, CellsOk a ls) (hcb : ∃ ls, CellsOk b ls) :
    FnOk Tryd.prog 21 #[va, vb] H fun v H' => Agr (Old H) H H' ∧ ∃ w ok, v = .tuple #[.string (bA w), .bool ok] ∧ FirstR (askG xorB a b) w ok := by
  refine FnOk.of_vc Tryd.func21 rfl (Tryd.call21 _) ?_
  (conv => whnf); refine VCall.mk (first_m hS hva hvb hca hcb differ1_p) ?_
  rintro _ H1 ⟨ha1, w, ok, rfl, hw⟩
  (conv => whnf)
  exact ⟨ha1, w, ok, rfl, hw⟩
theorem outside_c (hS : ∀ k, S k → k < H.size) (hva : AutoV S H va a) (hvb : AutoV S H vb b) (hca : ∃ ls, CellsOk a ls) (hcb : ∃ ls, CellsOk b ls) :
    FnOk Tryd.prog 24 #[va, vb] H fun v H' => Agr (Old H) H H' ∧ ∃ w ok, v = .tuple #[.string (bA w), .bool ok] ∧ FirstR (askG outB a b) w ok := by
  refine FnOk.of_vc Tryd.func24 rfl (Tryd.call24 _) ?_
  (conv => whnf); refine VCall.mk (first_m hS hva hvb hca hcb outside1_p) ?_
  rintro _ H1 ⟨ha1, w, ok, rfl, hw⟩
  (conv => whnf)
  exact ⟨ha1, w, ok, rfl, hw⟩
theorem same_c7 (hS : ∀ k, S k → k < H.size) (hva : AutoV S H va a) (hvb : AutoV S H vb b) (hca : ∃ ls, CellsOk a ls) (hcb : ∃ ls, CellsOk b ls) :
    FnOk Tryd.prog 22 #[va, vb] H fun v H' => Agr (Old H) H H' ∧ ∃ w ok, v = .bool (!ok) ∧ FirstR (askG xorB a b) w ok := by
  refine FnOk.of_vc Tryd.func22 rfl (Tryd.call22 _) ?_
  (conv => whnf); refine VCall.mk (differ_c hS hva hvb hca hcb) ?_
  rintro _ H1 ⟨ha1, w, ok, rfl, hw⟩
  (conv => whnf)
  exact ⟨ha1, w, ok, rfl, hw⟩
end
end Go.Proofs.YthomdogheamfpaaDoor
/- The canonical automata of two automata with the same members are alike; plain law. -/
set_option linter.unusedVariables false
set_option linter.unusedSimpArgs false
set_option maxRecDepth 100000
namespace Go.Proofs.YthomdogheamfpaaDoor
open Go.VC
attribute [local irreducible] mRun gRun atRun
/-! ### the walk, mapped -/
section
variable {K K' : Type} [DecidableEq K] [DecidableEq K'] {most : Nat} {step : K → Nat → K} {step' : K' → Nat → K'} {start : K} {f : K → K'} {I : K → Prop}
def mpF (f : K → K') (p : List K × List Nat) : List K' × List Nat := (p.1.map f, p.2)
def allI (I : K → Prop) (s : Option (List K × List Nat)) : Prop := ∀ F r, s = some (F, r) → ∀ y ∈ F, I y
theorem atF_map {F : List K} {k : K} (h : ∀ y ∈ F, f y = f k → y = k) : (atF most F k).map (fun p => (p.1.map f, p.2)) = atF most (F.map f) (f k) := by
  unfold atF
  have e : (F.map f).findIdx? (· = f k) = F.findIdx? (· = k) := by
    rw [List.findIdx?_map]
    exact findIdx_congr fun y hy => by
      show decide (f y = f k) = decide (y = k)
      rw [decide_eq_decide]
      exact ⟨h y hy, fun e => by rw [e]⟩
  rw [e]
  cases F.findIdx? (· = k) with
  | some i => rfl
  | none =>
    simp only [List.length_map]
    split
    · simp
    · rfl
theorem rowF_map {x : K} {b : Nat} {s : Option (List K × List Nat)} (hI : allI I s) (hx : I (step x b)) (hinj : ∀ y z, I y → I z → f y = f z → y = z) (hst : f (step x b) = step' (f x) b) : (rowF most step x s b).map (mpF f) = rowF most step' (f x) (s.map (mpF f)) b ∧ allI I (rowF most step x s b) := by
  cases s with
  | none => exact ⟨rfl, fun F r h => by cases h⟩
  | some p =>
    obtain ⟨F, r⟩ := p
    have hF := hI F r rfl
    have h := atF_map (most := most) (f := f) (F := F) (k := step x b) fun y hy => hinj y _ (hF y hy) hx
    have e : (rowF most step' (f x) ((some (F, r)).map (mpF f)) b) = (atF most (F.map f) (step' (f x) b)).map fun q => (q.1, r ++ [q.2]) := rfl
    rw [e, ← hst, ← h]
    cases ha : atF most F (step x b) with
    | none =>
      have e2 : rowF most step x (some (F, r)) b = none := by
        show (atF most F (step x b)).map _ = none
        rw [ha]; rfl
      rw [e2]
      exact ⟨rfl, fun F r h => by cases h⟩
    | some q =>
      obtain ⟨G, i⟩ := q
      have e2 : rowF most step x (some (F, r)) b = some (G, r ++ [i]) := by
        show (atF most F (step x b)).map _ = _
        rw [ha]; rfl
      rw [e2]
      refine ⟨rfl, fun F' r' e y hy => ?_⟩
      injection e with e
      injection e with e1 e3
      subst e1
      rcases atF_mem2 ha y hy with h | rfl
      · exact hF y h
      · exact hx
theorem foldF_map {x : K} (hinj : ∀ y z, I y → I z → f y = f z → y = z) : ∀ (l : List Nat) (s : Option (List K × List Nat)), allI I s → (∀ b ∈ l, I (step x b) ∧ f (step x b) = step' (f x) b) → (l.foldl (rowF most step x) s).map (mpF f) = l.foldl (rowF most step' (f x)) (s.map (mpF f)) ∧ allI I (l.foldl (rowF most step x) s)
  | [], s, hs, _ => ⟨rfl, hs⟩
  | b :: l, s, hs, h => by
    obtain ⟨h1, h2⟩ := rowF_map (most := most) hs (h b (by simp)).1 hinj (h b (by simp)).2
    rw [List.foldl_cons, List.foldl_cons, ← h1]
    exact foldF_map hinj l _ h2 fun c hc => h c (by simp [hc])
theorem rowsF_map (hinj : ∀ y z, I y → I z → f y = f z → y = z) (h0 : I start) (hst : ∀ x b, I x → b < 256 → I (step x b) ∧ f (step x b) = step' (f x) b) : ∀ n, (rowsF most step (List.range 256) start n).map (fun p => (p.1.map f, p.2)) = rowsF most step' (List.range 256) (f start) n ∧ ∀ F rows, rowsF most step (List.range 256) start n = some (F, rows) → ∀ y ∈ F, I y
  | 0 => ⟨rfl, fun F rows e y hy => by
    injection e with e
    injection e with e1 e2
    subst e1
    rw [List.mem_singleton.1 hy]
    exact h0⟩
  | n + 1 => by
    obtain ⟨h1, h2⟩ := rowsF_map hinj h0 hst n
    rw [rowsF, rowsF, ← h1]
    cases hr : rowsF most step (List.range 256) start n with
    | none => exact ⟨rfl, fun F rows e => by cases e⟩
    | some p =>
      obtain ⟨F, rows⟩ := p
      have hF := h2 F rows hr
      simp only [Option.bind_some, Option.map_some, List.getElem?_map]
      cases hg : F[n]? with
      | none => exact ⟨rfl, fun F' rows' e y hy => by
          injection e with e
          injection e with e1 e2
          subst e1
          exact hF y hy⟩
      | some x =>
        have hx := hF x (List.mem_of_getElem? hg)
        obtain ⟨h3, h4⟩ := foldF_map (most := most) (step := step) (step' := step') (x := x) hinj (List.range 256) (some (F, [])) (fun F' r e y hy => by
          injection e with e
          injection e with e1 e2
          subst e1
          exact hF y hy) fun b hb => hst x b hx (List.mem_range.1 hb)
        simp only [Option.map_some]
        rw [show (some (F.map f, ([] : List Nat))) = (some (F, ([] : List Nat))).map (mpF f) from rfl, ← h3]
        cases hq : (List.range 256).foldl (rowF most step x) (some (F, [])) with
        | none => exact ⟨rfl, fun F rows e => by cases e⟩
        | some q =>
          obtain ⟨G, r⟩ := q
          refine ⟨rfl, fun F' rows' e y hy => ?_⟩
          injection e with e
          injection e with e1 e2
          subst e1
          exact h4 G r hq y hy
theorem detW_map (hinj : ∀ y z, I y → I z → f y = f z → y = z) (h0 : I start) (hst : ∀ x b, I x → b < 256 → I (step x b) ∧ f (step x b) = step' (f x) b) : (detW most step start).map (List.map f) = detW most step' (f start) := by
  unfold detW detF
  rw [← (rowsF_map hinj h0 hst most).1]
  cases rowsF most step (List.range 256) start most <;> rfl
end
/-! ### members -/
attribute [local irreducible] detW
noncomputable instance decL : DecidableEq (List Nat → Bool) := fun a b => Classical.propDecidable (a = b)
open Classical in
noncomputable def langM (M : PA) (q : Nat) (w : List Nat) : Bool := if bytes5 w then M.fi (M.run q w) else false
def dvL (L : List Nat → Bool) (b : Nat) (w : List Nat) : Bool := L (b :: w)
theorem lang_eqv {M : PA} {p q : Nat} : langM M p = langM M q ↔ M.Eqv p q := by
  constructor
  · intro h w hw
    have := congrFun h w
    unfold langM at this
    rwa [if_pos hw, if_pos hw] at this
  · intro h
    funext w
    unfold langM
    by_cases hw : bytes5 w
    · rw [if_pos hw, if_pos hw, h w hw]
    · rw [if_neg hw, if_neg hw]
theorem lang_st {M : PA} {q b : Nat} (hb : b < 256) : langM M (M.st q b) = dvL (langM M q) b := by
  funext w
  unfold dvL langM
  have hiff : bytes5 (b :: w) ↔ bytes5 w := by
    unfold bytes5
    constructor
    · intro h x hx; exact h x (by simp [hx])
    · intro h x hx
      rcases List.mem_cons.1 hx with rfl | hx
      · exact hb
      · exact h x hx
  by_cases hw : bytes5 w
  · rw [if_pos hw, if_pos (hiff.2 hw)]; rfl
  · rw [if_neg hw, if_neg fun h => hw (hiff.1 h)]
theorem lang_fi {M : PA} {q : Nat} : langM M q [] = M.fi q := by
  unfold langM
  rw [if_pos (show bytes5 [] from fun b hb => by cases hb)]
  rfl
def InLang (M : PA) (O : List Nat) : Prop := detW 65537 dvL (langM M 0) = some (O.map (langM M))
theorem inLang_of {M : PA} {O : List Nat} {P : Nat → Nat} (hM : M.Ok) (hP : IsCls M (allS M) P) (h : detW 65537 (cst M P) (P 0) = some (O.map P)) (hO : ∀ x ∈ O, x < M.n) : InLang M O := by
  have hall : ∀ {x : Nat}, x < M.n → x ∈ allS M := fun h => List.mem_range.2 h
  obtain ⟨f, hf⟩ : ∃ f : Nat → List Nat → Bool, ∀ q, q < M.n → f (P q) = langM M q := by
    refine ⟨fun k => match (List.range M.n).find? (fun q => P q = k) with
      | some q => langM M q
      | none => fun _ => false, fun q hq => ?_⟩
    show (match (List.range M.n).find? (fun x => P x = P q) with
      | some q => langM M q
      | none => fun _ => false) = _
    cases hx : (List.range M.n).find? (fun x => P x = P q) with
    | none =>
      have := List.find?_eq_none.1 hx q (List.mem_range.2 hq)
      simp at this
    | some y =>
      have h1 : P y = P q := by simpa using List.find?_some hx
      have h2 := List.mem_range.1 (List.mem_of_find?_eq_some hx)
      exact lang_eqv.2 ((hP y (hall h2) q (hall hq)).1 h1)
  have hm := detW_map (most := 65537) (step := cst M P) (step' := dvL) (start := P 0) (f := f) (I := fun k => ∃ q, q < M.n ∧ k = P q) (by
    rintro y z ⟨p, hp, rfl⟩ ⟨q, hq, rfl⟩ e
    rw [hf p hp, hf q hq] at e
    exact (hP p (hall hp) q (hall hq)).2 (lang_eqv.1 e)) ⟨0, hM.pos, rfl⟩ (by
    rintro x b ⟨q, hq, rfl⟩ hb
    rw [cst_of hM hP hq hb, hf q hq, hf _ (hM.cl q b hq hb), lang_st hb]
    exact ⟨⟨_, hM.cl q b hq hb, rfl⟩, rfl⟩)
  rw [h, hf 0 hM.pos] at hm
  unfold InLang
  rw [← hm]
  simp only [Option.map_some, List.map_map]
  congr 1
  exact List.map_congr_left fun x hx => hf x (hO x hx)
theorem canon_like {M M' : PA} {O C : List Nat} {st st' : Int → Nat → Int} {fi fi' : Int → Bool} (hO : InLang M O) (hC : InLang M' C) (lO : LeadsC M O st fi) (lC : LeadsC M' C st' fi') (hL : langM M 0 = langM M' 0) :
    O.length = C.length ∧ (∀ i : Nat, i < O.length → fi (i : Int) = fi' (i : Int)) ∧ ∀ i b : Nat, i < O.length → b < 256 → st (i : Int) b = st' (i : Int) b := by
  have hnd := (detW_len (by decide) hO).2.2.1
  have he : O.map (langM M) = C.map (langM M') := by
    unfold InLang at hO hC
    rw [hL, hC] at hO
    injection hO with hO
    exact hO.symm
  have hlen : O.length = C.length := by have := congrArg List.length he; simpa using this
  have pair : ∀ i : Nat, i < O.length → ∃ x y, O[i]? = some x ∧ C[i]? = some y ∧ langM M x = langM M' y := fun i hi => by
    have h1 : O[i]? = some O[i] := List.getElem?_eq_getElem hi
    have h2 : C[i]? = some (C[i]'(by omega)) := List.getElem?_eq_getElem (by omega)
    refine ⟨_, _, h1, h2, ?_⟩
    have := congrArg (fun l => l[i]?) he
    simp only [List.getElem?_map, h1, h2, Option.map_some, Option.some.injEq] at this
    exact this
  refine ⟨hlen, fun i hi => ?_, fun i b hi hb => ?_⟩
  · obtain ⟨x, y, h1, h2, h3⟩ := pair i hi
    rw [lO.fi i x h1, lC.fi i y h2, ← lang_fi, h3, lang_fi]
  · obtain ⟨x, y, h1, h2, h3⟩ := pair i hi
    obtain ⟨t, z, e1, e2, e3⟩ := lO.st i b x h1 hb
    obtain ⟨t', z', g1, g2, g3⟩ := lC.st i b y h2 hb
    have k1 : langM M z = langM M' z' := by rw [lang_eqv.2 e3, lang_eqv.2 g3, lang_st hb, lang_st hb, h3]
    have m1 : (O.map (langM M))[t]? = some (langM M z) := by rw [List.getElem?_map, e2]; rfl
    have m2 : (O.map (langM M))[t']? = some (langM M z) := by rw [he, List.getElem?_map, g2, k1]; rfl
    have : t = t' := by
      obtain ⟨a1, a2⟩ := List.getElem?_eq_some_iff.1 m1
      obtain ⟨b1, b2⟩ := List.getElem?_eq_some_iff.1 m2
      exact (List.getElem_inj hnd).1 (a2.trans b2.symm)
    rw [e1, g1, this]
/-- The canonical automaton has the members of what it was made of. -/
theorem canon_lang {M : PA} {O : List Nat} {A : Option AM} (hO : InLang M O) (lO : LeadsC M O (stepM A) (finM A)) : langM (paO A) 0 = langM M 0 := by
  have key : ∀ (w : List Nat) (i x : Nat), bytes5 w → O[i]? = some x → (paO A).fi ((paO A).run i w) = M.fi (M.run x w) := fun w => by
    induction w with
    | nil => intro i x _ hx; exact lO.fi i x hx
    | cons b w ih =>
      intro i x hw hx
      have hb := hw b (by simp)
      have hw' : bytes5 w := fun c hc => hw c (by simp [hc])
      obtain ⟨t, z, e1, e2, e3⟩ := lO.st i b x hx hb
      have e4 : (paO A).st i b = t := by
        show (stepM A (i : Int) b).toNat = t
        rw [e1]; simp
      show (paO A).fi ((paO A).run ((paO A).st i b) w) = M.fi (M.run (M.st x b) w)
      rw [e4, ih t z hw' e2]
      exact e3 w hw'
  have h0 := (detW_len (by decide) hO).2.2.2
  rw [List.getElem?_map, Option.map_eq_some_iff] at h0
  obtain ⟨x, hx, hx2⟩ := h0
  rw [← hx2]
  funext w
  unfold langM
  by_cases hw : bytes5 w
  · rw [if_pos hw, if_pos hw, key w 0 x hw hx]
  · rw [if_neg hw, if_neg hw]
/-! ### the members of the program's automata -/
theorem run_paO {o : Option AM} (h : StepOk o) : ∀ (w : List Nat) (q : Nat), q < stN o → bytes5 w → runL o w (q : Int) = (((paO o).run q w : Nat) : Int) ∧ (paO o).run q w < stN o := fun w => by
  induction w with
  | nil => intro q hq _; exact ⟨rfl, hq⟩
  | cons b w ih =>
    intro q hq hw
    have hb := hw b (by simp)
    have h1 := (paO_ok h).cl q b hq hb
    have h2 := ih ((paO o).st q b) h1 fun c hc => hw c (by simp [hc])
    rw [runL_cons, paO_st h hq hb]
    exact h2
theorem accL_lang {o : Option AM} (h : StepOk o) {w : List Nat} (hw : bytes5 w) : accL o w = langM (paO o) 0 w := by
  unfold langM
  rw [if_pos hw]
  unfold accL
  rw [show runL o w 0 = ((paO o).run 0 w : Int) from (run_paO h w 0 h.n1 hw).1]
  rfl
theorem lang_acc {a b : Option AM} (ha : StepOk a) (hb : StepOk b) : langM (paO a) 0 = langM (paO b) 0 ↔ ∀ w, bytes5 w → accL a w = accL b w := by
  constructor
  · intro h w hw
    rw [accL_lang ha hw, accL_lang hb hw, h]
  · intro h
    funext w
    by_cases hw : bytes5 w
    · rw [← accL_lang ha hw, ← accL_lang hb hw, h w hw]
    · unfold langM; rw [if_neg hw, if_neg hw]
/-! ### the words of askG -/
theorem ask_leads (ask : Bool → Bool → Bool) (a b : Option AM) : ∀ (w : List Nat) (s x y : Int), Leads (askG ask a b) w ⟨s, x, y⟩ ↔ ask (finM a (runL a w x)) (finM b (runL b w y)) = true
  | [], s, x, y => Iff.rfl
  | c :: w, s, x, y => by
    rw [runL_cons, runL_cons, ← ask_leads ask a b w 0]
    constructor
    · rintro ⟨t, ht, h⟩
      rw [List.mem_singleton.1 ht] at h
      exact h
    · intro h
      exact ⟨_, List.mem_singleton.2 rfl, h⟩
theorem ask_root (ask : Bool → Bool → Bool) (a b : Option AM) (w : List Nat) : Leads (askG ask a b) w root ↔ ask (accL a w) (accL b w) = true := ask_leads ask a b w 0 0 0
theorem ask_acc {ask : Bool → Bool → Bool} {a b : Option AM} {w : List Nat} {ok : Bool} (h : FirstR (askG ask a b) w ok) : ask (acceptsM a (bA w)) (acceptsM b (bA w)) = ok ∧ (ok = false → w = []) := by
  cases ok with
  | true =>
    have hw := (h.1 rfl).1
    have hb := hw.2.1
    obtain ⟨n, rfl, hn⟩ := hw.2.2.1
    have h1 := (ask_root ask a b w).1 hn
    rw [acc_bA hb, acc_bA hb]
    exact ⟨h1, fun e => by cases e⟩
  | false =>
    obtain ⟨rfl, hno⟩ := h.2 rfl
    have hb : bytes_ [] := fun b hb => by cases hb
    rw [acc_bA hb, acc_bA hb]
    refine ⟨Bool.eq_false_iff.2 fun e => hno [] hb ⟨root, rfl, (ask_root ask a b []).2 e⟩, fun _ => rfl⟩
theorem ask_last {ask : Bool → Bool → Bool} {a b : Option AM} {w : List Nat} {ok : Bool} (h : FirstR (askG ask a b) w ok) {s : ByteArray} (h1 : ask (acceptsM a s) (acceptsM b s) = true) : ok = true ∧ aheadM s (bA w) = false := by
  have hl : Leads (askG ask a b) (unB s) root := (ask_root ask a b _).2 (by rw [← acc_bA (unB_bytes s), ← acc_bA (unB_bytes s), bA_unB]; exact h1)
  cases ok with
  | false => exact absurd ⟨root, rfl, hl⟩ ((h.2 rfl).2 (unB s) (unB_bytes s))
  | true => exact ⟨rfl, (h.1 rfl).not_ahead hl⟩
theorem ask_same {a b : Option AM} (ha : StepOk a) (hb : StepOk b) {w : List Nat} {ok : Bool} (h : FirstR (askG xorB a b) w ok) : ok = false ↔ langM (paO a) 0 = langM (paO b) 0 := by
  rw [lang_acc ha hb]
  constructor
  · rintro rfl u hu
    have := (h.2 rfl).2 u hu
    apply Classical.byContradiction
    intro hn
    exact this ⟨root, rfl, (ask_root xorB a b u).2 (by unfold xorB; simpa using hn)⟩
  · intro hall
    cases ok with
    | false => rfl
    | true =>
      have hw := (h.1 rfl).1
      obtain ⟨n, rfl, hn⟩ := hw.2.2.1
      have h1 := (ask_root xorB a b w).1 hn
      rw [hall w hw.2.1] at h1
      unfold xorB at h1
      simp at h1
end Go.Proofs.YthomdogheamfpaaDoor
/- odd and ahead of the laws of layer 7: the walks. -/
set_option linter.unusedVariables false
set_option linter.unusedSimpArgs false
set_option maxRecDepth 100000
namespace Go.Proofs.YthomdogheamfpaaDoor
open Go.VC
def odd7M : AM := madeM [BitVec.allOnes 256] [[1], [0]] [false, true]
def odd7N : AM := ⟨odd7M.sets, List.replicate 256 0, [[0 + 1], [0 + 0]], [false, true]⟩
theorem odd7_sound : soundB [BitVec.allOnes 256] [[1], [0]] 2 = true := by rfl
theorem odd7_same : odd7M.cell = List.replicate 256 0 := by kernel_rfl
theorem odd7_auto : autoOf [BitVec.allOnes 256] [[1], [0]] [false, true] = some odd7M := by
  unfold autoOf
  rw [show soundB [BitVec.allOnes 256] [[1], [0]] [false, true].length = true from odd7_sound]; rfl
attribute [local irreducible] odd7M mRun gRun atRun
theorem odd7_c (H : Heap) : FnOk Tryd.prog 39 #[] H fun v' H' => Agr (Old H) H H' ∧ AutoV (Old H') H' v' (some odd7M) := by
  refine FnOk.of_vc Tryd.func39 rfl (Tryd.call39 _) ?_
  (conv => whnf); refine pures (span_p 0 255 (by decide) (by decide) H) fun H1 ha1 => ?_
  rw [spanS_full]
  have hs1 := old_size ha1
  (conv => whnf); refine vbuild1 sl83 (setL (BitVec.allOnes 256)) rfl rfl (by decide) (by decide) ?_
  intro b2 H2 hb2 hs2 hk2 ha2
  (conv => whnf); refine vbuild1 sl33 [.int .i64 1] rfl rfl (by decide) (by decide) ?_
  intro b3 H3 hb3 hs3 hk3 ha3
  (conv => whnf); refine vbuild1 sl33 [.int .i64 0] rfl rfl (by decide) (by decide) ?_
  intro b4 H4 hb4 hs4 hk4 ha4
  (conv => whnf); refine vbuild2 sl23 [.slice (some ⟨b3, 0, none⟩) 1 1] [.slice (some ⟨b4, 0, none⟩) 1 1] rfl rfl rfl rfl (by decide) (by decide) ?_
  intro b5 H5 hb5 hs5 hk5 ha5
  (conv => whnf); refine vbuild2 sl24 [.bool false] [.bool true] rfl rfl rfl rfl (by decide) (by decide) ?_
  intro b6 H6 hb6 hs6 hk6 ha6
  have hk5' := hk5.agr ha6 (show b5 < b6 by omega)
  have hk4' := (hk4.agr ha5 (show b4 < b5 by omega)).agr ha6 (show b4 < b6 by omega)
  have hk3' := ((hk3.agr ha4 (show b3 < b4 by omega)).agr ha5 (show b3 < b5 by omega)).agr ha6 (show b3 < b6 by omega)
  have hk2' := (((hk2.agr ha3 (show b2 < b3 by omega)).agr ha4 (show b2 < b4 by omega)).agr ha5 (show b2 < b5 by omega)).agr ha6 (show b2 < b6 by omega)
  have hA6 : Agr (Old H) H H6 := ((((ha1.trans (ha2.mono fun k hk => by unfold Old at hk; omega)).trans (ha3.mono fun k hk => by unfold Old at hk; omega)).trans (ha4.mono fun k hk => by unfold Old at hk; omega)).trans (ha5.mono fun k hk => by unfold Old at hk; omega)).trans (ha6.mono fun k hk => by unfold Old at hk; omega)
  have i1 : SlD tI (Fresh H H6) H6 (some ⟨b3, 0, none⟩) 1 [1] := SlD.ofBlk hk3' ⟨by omega, by omega⟩ (Ty.reps_one ⟨rfl, inI64 (x := 1) (by decide)⟩) rfl (by decide)
  have i2 : SlD tI (Fresh H H6) H6 (some ⟨b4, 0, none⟩) 1 [0] := SlD.ofBlk hk4' ⟨by omega, by omega⟩ (Ty.reps_one ⟨rfl, inI64 (x := 0) (by decide)⟩) rfl (by decide)
  (conv => whnf)
  refine VCall.mk (new_c (some ⟨b2, 0, none⟩) (some ⟨b5, 0, none⟩) (some ⟨b6, 0, none⟩) 1 2 2 [BitVec.allOnes 256] [[1], [0]] [false, true] (Fresh H H6) H6 (fun k hk => hk.2)
    (SlD.ofBlk hk2' ⟨by omega, by omega⟩ (Ty.reps_one rfl) rfl (by decide)) (SlD.ofBlk hk5' ⟨by omega, by omega⟩ ⟨[_], [_], rfl, ⟨_, _, rfl, i1⟩, Ty.reps_one ⟨_, _, rfl, i2⟩⟩ rfl (by decide)) (SlD.ofBlk hk6 ⟨by omega, by omega⟩ ⟨[_], [_], rfl, rfl, Ty.reps_one rfl⟩ rfl (by decide))) ?_
  rintro v7 H7 ⟨ha7, hs7, hv7⟩
  rw [show soundB [BitVec.allOnes 256] [[1], [0]] [false, true].length = true from odd7_sound] at hv7
  (conv => whnf)
  refine ⟨hA6.trans (ha7.mono fun k hk => by unfold Old at *; omega), ?_⟩
  have h := hv7.mono (S' := Old H7) fun k hk => hk.2
  simp only [if_true] at h
  unfold odd7M
  exact h
theorem ahead7_p (w v : ByteArray) (H : Heap) : Pure Tryd.prog 26 #[.string w, .string v] H (.bool (aheadM w v)) := by
  refine FnOk.of_vc Tryd.func26 rfl (Tryd.call26 _) ?_
  unfold aheadM
  by_cases h1 : w.size < v.size
  · have d1 : decide ((w.size : Int) < (v.size : Int)) = true := decide_eq_true (by omega)
    rw [decide_eq_true h1]
    (conv => whnf); rw [d1]
    (conv => whnf)
    exact ⟨rfl, Agr.refl _ _⟩
  · have d1 : decide ((w.size : Int) < (v.size : Int)) = false := decide_eq_false (by omega)
    rw [decide_eq_false h1]
    (conv => whnf); rw [d1]
    by_cases h2 : w.size = v.size
    · have d2 : ((w.size : Int) == (v.size : Int)) = true := by rw [h2]; exact beq_self_eq_true _
      rw [decide_eq_true h2]
      (conv => whnf); rw [d2]
      (conv => whnf); refine vlsss ?_
      rw [ByteArray.toList_eq, ByteArray.toList_eq]
      (conv => whnf)
      exact ⟨rfl, Agr.refl _ _⟩
    · have d2 : ((w.size : Int) == (v.size : Int)) = false := beq_eq_false_iff_ne.2 (by omega)
      rw [decide_eq_false h2]
      (conv => whnf); rw [d2]
      (conv => whnf)
      exact ⟨rfl, Agr.refl _ _⟩
end Go.Proofs.YthomdogheamfpaaDoor
/- The law DfaNews: its walk. -/
set_option linter.unusedVariables false
set_option linter.unusedSimpArgs false
set_option maxRecDepth 100000
namespace Go.VC
end Go.VC
namespace Go.Proofs.YthomdogheamfpaaDoor
open Go.VC
attribute [local irreducible] mRun atRun

end Go.Proofs.YthomdogheamfpaaDoor
/- Words, listed, Cells as memory of the call's own; the law DfaCells: its walk. -/
set_option linter.unusedVariables false
set_option linter.unusedSimpArgs false
set_option maxRecDepth 100000
namespace Go.Proofs.YthomdogheamfpaaDoor
open Go.VC
attribute [local irreducible] mRun atRun gRun

/-! ### the plain law -/
theorem gRun_congr {s t : Nat → Nat → Bool} (hr : ∀ a, s a a = true) (h : ∀ b g, b < 256 → g < 256 → s b g = t b g) : ∀ b, b ≤ 256 → gRun s b = gRun t b
  | 0, _ => by unfold gRun; rfl
  | b + 1, hb => by
    have ih := gRun_congr hr h b (by omega)
    have hok := gRun_ok hr b
    have hf : (gRun s b).1.findIdx? (fun g => s b g) = (gRun t b).1.findIdx? fun g => t b g := by
      rw [← ih]
      exact findIdx_congr fun g hg => by
        obtain ⟨k, hk⟩ := List.getElem?_of_mem hg
        exact h b g (by omega) (by have := (hok.first k g hk).1; omega)
    cases hfi : (gRun t b).1.findIdx? fun g => t b g with
    | some k => rw [gRun_some hfi, gRun_some (hf.trans hfi), ih]
    | none => rw [gRun_none hfi, gRun_none (hf.trans hfi), ih]
theorem gRun_one {s : Nat → Nat → Bool} (h : ∀ b, s b 0 = true) : ∀ b, gRun s (b + 1) = ([0], List.replicate (b + 1) 0)
  | 0 => by rw [gRun_none (by unfold gRun; rfl)]; unfold gRun; rfl
  | b + 1 => by
    have ih := gRun_one h b
    have hfi : (gRun s (b + 1)).1.findIdx? (fun g => s (b + 1) g) = some 0 := by rw [ih]; simp [List.findIdx?_cons, h]
    rw [gRun_some hfi, ih]
    simp only [List.replicate_succ' (n := b + 1)]
theorem cells_law (cells : List (BitVec 256)) (next : List (List Int)) (final : List Bool) : (cellsM (autoOf cells next final)).length = (gRun (simD (dfaOf cells next final)) 256).1.length ∧
    ∀ (k : Nat) x, (cellsM (autoOf cells next final))[k]? = some x → ∀ i, i < 256 → x.getLsbD i = atSet (gRun (simD (dfaOf cells next final)) 256).2 k i := by
  unfold autoOf dfaOf
  split
  · rename_i hs
    have hsim : ∀ b g, b < 256 → g < 256 → simD (madeD cells next final) b g = simT next cells b g := by
      intro b g hb hg
      unfold simD simTo simT
      rw [Bool.eq_iff_iff, List.all_eq_true, List.all_eq_true]
      have hlen : (madeD cells next final).next.length = next.length := by simp [madeD]
      constructor
      · intro h row hrow
        obtain ⟨q, hq⟩ := List.getElem?_of_mem hrow
        have := h q (List.mem_range.2 (by rw [hlen]; exact (List.getElem?_eq_some_iff.1 hq).1))
        rwa [madeD_step hq hb, madeD_step hq hg] at this
      · intro h q hq
        have hq' := List.mem_range.1 hq
        rw [hlen] at hq'
        obtain ⟨row, hrow⟩ := get_some hq'
        rw [madeD_step hrow hb, madeD_step hrow hg]
        exact h row (List.mem_of_getElem? hrow)
    rw [gRun_congr (simD_refl _) hsim 256 (Nat.le_refl _)]
    exact sets_of_g hs
  · have hone : ∀ b, simD noneD b 0 = true := by
      intro b
      unfold simD simTo
      rw [List.all_eq_true]
      intro q hq
      have hq1 : q < 1 := List.mem_range.1 hq
      obtain rfl : q = 0 := by omega
      have hz : ∀ c, stepD noneD 0 c = 0 := fun c => by
        have h0 : noneD.cell.getD c 0 = 0 := by
          simp only [noneD]
          rw [List.getD_eq_getElem?_getD, List.getElem?_replicate]
          split <;> rfl
        unfold stepD
        rw [h0]
        rfl
      show (stepD noneD 0 b == stepD noneD 0 0) = true
      rw [hz, hz]; rfl
    have h1 := gRun_one hone 255
    rw [show 255 + 1 = 256 from rfl] at h1
    rw [h1]
    refine ⟨rfl, fun k x hx i hi => ?_⟩
    simp only [cellsM] at hx
    have hk := (List.getElem?_eq_some_iff.1 hx).1
    simp only [List.length_singleton] at hk
    rw [show k = 0 by omega, List.getElem?_cons_zero] at hx
    cases hx
    rw [BitVec.getLsbD_allOnes, show k = 0 by omega]
    unfold atSet
    rw [List.getElem?_replicate, if_pos hi]
    simp [hi]

end Go.Proofs.YthomdogheamfpaaDoor
/- One table just where the same members; the automaton odd: plain laws. -/
set_option linter.unusedVariables false
set_option linter.unusedSimpArgs false
set_option maxRecDepth 100000
namespace Go.Proofs.YthomdogheamfpaaDoor
open Go.VC
attribute [local irreducible] mRun gRun atRun odd7M
/-! ### cells by steps -/
def simO (o : Option AM) (b g : Nat) : Bool := (List.range (stN o)).all fun q => stepM o (q : Int) b == stepM o (q : Int) g
def cellsG (sim : Nat → Nat → Bool) : List (BitVec 256) := (atSets (gRun sim 256).2 (gRun sim 256).1.length).map bvN
theorem simO_refl (o : Option AM) (a : Nat) : simO o a a = true := by simp [simO]
theorem cellsG_congr {s t : Nat → Nat → Bool} (hr : ∀ a, s a a = true) (h : ∀ b g, b < 256 → g < 256 → s b g = t b g) : cellsG s = cellsG t := by
  unfold cellsG
  rw [gRun_congr hr h 256 (Nat.le_refl _)]
theorem simO_D {o : Option AM} {D : DM} (hn : stN o = D.next.length) (hst : ∀ q b : Nat, q < stN o → b < 256 → stepM o (q : Int) b = stepD D (q : Int) b) {b g : Nat} (hb : b < 256) (hg : g < 256) : simO o b g = simD D b g := by
  unfold simO simD simTo
  rw [hn, Bool.eq_iff_iff, List.all_eq_true, List.all_eq_true]
  constructor <;> intro h q hq
  · have h1 := h q hq
    have hq1 := List.mem_range.1 hq
    rw [hst q b (by omega) hb, hst q g (by omega) hg] at h1
    exact h1
  · have h1 := h q hq
    have hq1 := List.mem_range.1 hq
    rw [hst q b (by omega) hb, hst q g (by omega) hg]
    exact h1
theorem cells_sim (cells : List (BitVec 256)) (next : List (List Int)) (final : List Bool) : cellsM (autoOf cells next final) = cellsG (simO (autoOf cells next final)) := by
  obtain ⟨h1, h2⟩ := cells_law cells next final
  have e : cellsG (simO (autoOf cells next final)) = cellsG (simD (dfaOf cells next final)) := cellsG_congr (simO_refl _) fun b g hb hg => simO_D (both_n _ _ _) (fun q b _ hb => both_step _ _ _ _ hb) hb hg
  rw [e]
  unfold cellsG
  refine List.ext_getElem? fun k => ?_
  by_cases hk : k < (gRun (simD (dfaOf cells next final)) 256).1.length
  · obtain ⟨x, hx⟩ := get_some (l := cellsM (autoOf cells next final)) (k := k) (by rw [h1]; exact hk)
    rw [hx, List.getElem?_map, atSets_get hk]
    simp only [Option.map_some]
    congr 1
    refine BitVec.eq_of_getLsbD_eq fun i hi => ?_
    rw [h2 k x hx i hi, bvN_bit _ hi]
  · rw [List.getElem?_eq_none (by omega), List.getElem?_eq_none (by rw [List.length_map, atSets_len]; omega)]
/-! ### the table's text -/
def tabM (o : Option AM) : List Nat := tableM (cellsM o) (stN o) (paO o).st (paO o).fi
def IsMade (o : Option AM) : Prop := ∃ cells next final, o = autoOf cells next final
theorem IsMade.sim {o : Option AM} (h : IsMade o) : cellsM o = cellsG (simO o) := by
  obtain ⟨c, n, f, rfl⟩ := h
  exact cells_sim c n f
theorem IsMade.ok {o : Option AM} (h : IsMade o) : ∃ ls, CellsOk o ls := by
  obtain ⟨c, n, f, rfl⟩ := h
  exact cells_ok c n f
theorem IsMade.steps {o : Option AM} (h : IsMade o) : StepOk o := by
  obtain ⟨c, n, f, rfl⟩ := h
  exact (both_of c n f).stepOk
theorem cells_like {a b : Option AM} (ha : IsMade a) (hb : IsMade b) (hn : stN a = stN b) (hst : ∀ i x : Nat, i < stN a → x < 256 → stepM a (i : Int) x = stepM b (i : Int) x) : cellsM a = cellsM b := by
  rw [ha.sim, hb.sim]
  refine cellsG_congr (simO_refl _) fun x g hx hg => ?_
  unfold simO
  rw [hn, Bool.eq_iff_iff, List.all_eq_true, List.all_eq_true]
  constructor <;> intro h q hq
  · have h1 := h q hq
    have hq1 := List.mem_range.1 hq
    rw [hst q x (by omega) hx, hst q g (by omega) hg] at h1
    exact h1
  · have h1 := h q hq
    have hq1 := List.mem_range.1 hq
    rw [hst q x (by omega) hx, hst q g (by omega) hg]
    exact h1
theorem tab_like {a b : Option AM} (ha : IsMade a) (hb : IsMade b) (hn : stN a = stN b) (hst : ∀ i x : Nat, i < stN a → x < 256 → stepM a (i : Int) x = stepM b (i : Int) x) (hfi : ∀ i : Nat, i < stN a → finM a (i : Int) = finM b (i : Int)) : tabM a = tabM b := by
  unfold tabM
  rw [cells_like ha hb hn hst, ← hn]
  exact table_congr (fun i x hi hx => by show (stepM a (i : Int) x).toNat = (stepM b (i : Int) x).toNat; rw [hst i x hi hx]) hfi
/-- A table's text tells the members. -/
theorem tab_lang {a b : Option AM} (ha : IsMade a) (hb : IsMade b) (h : tabM a = tabM b) : langM (paO a) 0 = langM (paO b) 0 := by
  obtain ⟨ls, ca⟩ := ha.ok
  obtain ⟨ls', cb⟩ := hb.ok
  have sa := ha.steps
  have sb := hb.steps
  obtain ⟨hn, hc, hs⟩ := table_inj h
  have hc := hc sa.n1
  have rep : ∀ {o : Option AM} {ls : List Nat}, StepOk o → CellsOk o ls → ∀ {i x : Nat} {k : Nat} {c : BitVec 256}, i < stN o → x < 256 → (cellsM o)[k]? = some c → c.getLsbD x = true → (paO o).st i x = (paO o).st i (nextM c 0).1 := fun {o ls} so co {i x k c} hi hx hk hcx => by
    obtain ⟨l, hl, -, h2, -⟩ := co.least k c hk
    have := (co.keeps k c l x hk hl hx hcx).2 (i : Int) (by omega) (by omega)
    show (stepM o (i : Int) x).toNat = (stepM o (i : Int) (nextM c 0).1).toNat
    rw [this, h2]
  have hst : ∀ i x : Nat, i < stN a → x < 256 → (paO a).st i x = (paO b).st i x := fun i x hi hx => by
    obtain ⟨k, c, hk, hcx, -⟩ := ca.part x hx
    rw [rep sa ca hi hx hk hcx, rep sb cb (by omega) hx (by rw [← hc]; exact hk) hcx]
    exact (hs i hi).2 c (List.mem_of_getElem? hk)
  have key : ∀ (w : List Nat) (i : Nat), i < stN a → bytes5 w → (paO a).fi ((paO a).run i w) = (paO b).fi ((paO b).run i w) := fun w => by
    induction w with
    | nil => intro i hi _; exact (hs i hi).1
    | cons x w ih =>
      intro i hi hw
      have hx := hw x (by simp)
      show (paO a).fi ((paO a).run ((paO a).st i x) w) = (paO b).fi ((paO b).run ((paO b).st i x) w)
      rw [← hst i x hi hx]
      exact ih _ ((paO_ok sa).cl i x hi hx) fun c hc => hw c (by simp [hc])
  funext w
  unfold langM
  by_cases hw : bytes5 w
  · rw [if_pos hw, if_pos hw, key w 0 sa.n1 hw]
  · rw [if_neg hw, if_neg hw]
/-- The canonical automaton of o. -/
structure IsCan (o : Option AM) (a : Option AM) : Prop where
  made : IsMade a
  ex : ∃ O, InLang (paO o) O ∧ InOrder (paO o) O ∧ LeadsC (paO o) O (stepM a) (finM a) ∧ stN a = O.length
theorem isCan_of {o : Option AM} {rows : List (List Nat)} {O : List Nat} (so : StepOk o) (hs : soundB (cellsM o) (rows.map rowI) (O.map fun (x : Nat) => finM o (x : Int)).length = true) (hin : InOrder (paO o) O)
    (hl : LeadsC (paO o) O (stepM (some (madeM (cellsM o) (rows.map rowI) (O.map fun (x : Nat) => finM o (x : Int))))) (finM (some (madeM (cellsM o) (rows.map rowI) (O.map fun (x : Nat) => finM o (x : Int)))))) (hr : rows.length = O.length) : IsCan o (some (madeM (cellsM o) (rows.map rowI) (O.map fun (x : Nat) => finM o (x : Int)))) := by
  have hm : IsMade (some (madeM (cellsM o) (rows.map rowI) (O.map fun (x : Nat) => finM o (x : Int)))) := ⟨_, _, _, by unfold autoOf; rw [if_pos hs]⟩
  obtain ⟨P, hP, hO⟩ := id hin
  refine ⟨hm, O, inLang_of (paO_ok so) hP hO hl.lt, hin, hl, ?_⟩
  show (madeM (cellsM o) (rows.map rowI) (O.map fun (x : Nat) => finM o (x : Int))).next.length = _
  unfold madeM
  simp [hr]
theorem IsCan.lang {o a : Option AM} (h : IsCan o a) : langM (paO a) 0 = langM (paO o) 0 := by
  obtain ⟨O, h1, -, h3, -⟩ := h.ex
  exact canon_lang h1 h3
theorem IsCan.tab {o p a b : Option AM} (ha : IsCan o a) (hb : IsCan p b) : tabM a = tabM b ↔ langM (paO o) 0 = langM (paO p) 0 := by
  constructor
  · intro h
    rw [← ha.lang, ← hb.lang]
    exact tab_lang ha.made hb.made h
  · intro h
    obtain ⟨O, h1, -, h3, h4⟩ := ha.ex
    obtain ⟨C, g1, -, g3, g4⟩ := hb.ex
    obtain ⟨e1, e2, e3⟩ := canon_like h1 g1 h3 g3 h
    exact tab_like ha.made hb.made (by omega) (fun i x hi hx => e3 i x (by omega) hx) fun i hi => e2 i (by omega)
/-! ### odd -/
theorem odd7_N : odd7M = odd7N := by
  have h2 : odd7M.next = [[0 + 1], [0 + 0]] := by unfold odd7M; kernel_rfl
  have h3 : odd7M.final = [false, true] := by unfold odd7M; rfl
  unfold odd7N
  rw [← odd7_same, ← h2, ← h3]
theorem odd7_cell (b : Nat) : odd7N.cell.getD b 0 = 0 := by
  show (List.replicate 256 0).getD b 0 = 0
  rw [List.getD_eq_getElem?_getD, List.getElem?_replicate]
  split <;> rfl
theorem odd7_step0 (b : Nat) : stepM (some odd7M) 0 b = 1 := by
  rw [odd7_N]
  show ((odd7N.next[0]?).getD []).getD (odd7N.cell.getD b 0) 0 = 1
  rw [odd7_cell]; rfl
theorem odd7_step1 (b : Nat) : stepM (some odd7M) 1 b = 0 := by
  rw [odd7_N]
  show ((odd7N.next[1]?).getD []).getD (odd7N.cell.getD b 0) 0 = 0
  rw [odd7_cell]; rfl
theorem odd7_fin0 : finM (some odd7M) 0 = false := by rw [odd7_N]; rfl
theorem odd7_fin1 : finM (some odd7M) 1 = true := by rw [odd7_N]; rfl
theorem odd7_n : stN (some odd7M) = 2 := by rw [odd7_N]; rfl
theorem odd7_made : IsMade (some odd7M) := ⟨_, _, _, odd7_auto.symm⟩
/-- What Differ says of odd and nil. -/
theorem odd7_differ {w : List Nat} {ok : Bool} (h : FirstR (askG xorB (some odd7M) none) w ok) : w = [0] ∧ ok = true := by
  have hb : bytes_ [0] := fun b hb => by simp at hb; omega
  have hacc : ∀ u, accL none u = false := fun u => rfl
  have hl : Leads (askG xorB (some odd7M) none) [0] root := (ask_root _ _ _ _).2 (by
    rw [hacc]
    show xorB (finM (some odd7M) (stepM (some odd7M) 0 0)) false = true
    rw [odd7_step0, odd7_fin1]
    rfl)
  have hF : FirstR (askG xorB (some odd7M) none) [0] true := ⟨fun _ => ⟨⟨rfl, hb, ⟨root, rfl, hl⟩, fun u hu _ _ => ?_⟩, fun u _ hul => ?_⟩, fun h => (by cases h)⟩
  · exact h.uniq hF
  · have := zeros_least u
    rw [hu] at this
    exact this
  · obtain ⟨n, rfl, hn⟩ := hul
    have h1 := (ask_root _ _ _ _).1 hn
    cases u with
    | nil =>
      rw [hacc] at h1
      have h2 : xorB (finM (some odd7M) 0) false = true := h1
      rw [odd7_fin0] at h2
      cases h2
    | cons c u => show 1 ≤ (c :: u).length; simp
theorem gRun_all : gRun (fun _ _ => true) 256 = ([0], List.replicate 256 0) := gRun_one (fun _ => rfl) 255
theorem show_full : showM (BitVec.allOnes 256) = [91, 94, 93] := by
  have h1 : countM (BitVec.allOnes 256) = 256 := by decide
  have h2 : ∀ i, pieM (fun k => (~~~ (BitVec.allOnes 256)).getLsbD k) i = [] := fun i => by
    have : (~~~ (BitVec.allOnes 256)).getLsbD i = false := by simp
    unfold pieM
    simp only [this]
    rfl
  have h3 : ∀ n, bodM (fun k => (~~~ (BitVec.allOnes 256)).getLsbD k) n = [] := fun n => by
    induction n with
    | zero => rfl
    | succ n ih => rw [bod_succ, ih, h2]; rfl
  unfold showM
  rw [if_neg (by rw [h1]; decide), if_pos (by rw [h1]; decide)]
  rw [if_pos (by rw [h1]; decide), h3]
  rfl
theorem odd7_tab {a : Option AM} (h : IsCan (some odd7M) a) : tabM a = [115, 116, 97, 116, 101, 115, 32, 50, 10, 48, 32, 91, 94, 93, 62, 49, 10, 49, 42, 32, 91, 94, 93, 62, 48, 10] := by
  obtain ⟨O, h1, -, h3, h4⟩ := h.ex
  obtain ⟨hO1, -, hnd, h0⟩ := detW_len (by decide) h1
  have hlt : ∀ x ∈ O, x < 2 := fun x hx => by
    have := h3.lt x hx
    have e : (paO (some odd7M)).n = 2 := odd7_n
    omega
  have f0 : (paO (some odd7M)).fi 0 = false := odd7_fin0
  have f1 : (paO (some odd7M)).fi 1 = true := odd7_fin1
  have s0 : ∀ b, (paO (some odd7M)).st 0 b = 1 := fun b => by
    show (stepM (some odd7M) 0 b).toNat = 1
    rw [odd7_step0]; rfl
  have s1 : ∀ b, (paO (some odd7M)).st 1 b = 0 := fun b => by
    show (stepM (some odd7M) 1 b).toNat = 0
    rw [odd7_step1]; rfl
  have two : ∀ {x : Nat}, x < 2 → x = 0 ∨ x = 1 := fun h => by omega
  have hx0 : O[0]? = some 0 := by
    rw [List.getElem?_map, Option.map_eq_some_iff] at h0
    obtain ⟨x, hx, hx2⟩ := h0
    rcases two (hlt x (List.mem_of_getElem? hx)) with rfl | rfl
    · exact hx
    · have := congrFun hx2 []
      rw [lang_fi, lang_fi, f0, f1] at this
      cases this
  have hnd2 : O.Nodup := by
    unfold List.Nodup at hnd ⊢
    rw [List.pairwise_map] at hnd
    exact hnd.imp fun h e => h (by rw [e])
  have hOe : O = [0, 1] := by
    obtain ⟨t, z, -, e2, e3⟩ := h3.st 0 0 0 hx0 (by decide)
    rw [s0] at e3
    have hz : z = 1 := by
      rcases two (hlt z (List.mem_of_getElem? e2)) with rfl | rfl
      · have := e3.fi
        rw [f0, f1] at this; cases this
      · rfl
    subst hz
    have hm := List.mem_of_getElem? e2
    match O, hx0, hm, hnd2, hlt with
    | [], h, _, _, _ => cases h
    | [x], h, hm, _, _ =>
      cases h
      simp at hm
    | [x, y], h, hm, _, _ =>
      cases h
      simp at hm
      rw [← hm]
    | x :: y :: z :: r, h, hm, hnd, hlt =>
      cases h
      exfalso
      have h1 := hlt y (by simp)
      have h2 := hlt z (by simp)
      simp at hnd
      omega
  subst hOe
  have hn : stN a = 2 := h4
  have hfi0 : finM a 0 = false := by rw [← f0]; exact h3.fi 0 0 rfl
  have hfi1 : finM a 1 = true := by rw [← f1]; exact h3.fi 1 1 rfl
  have st0 : ∀ b, b < 256 → stepM a 0 b = 1 := fun b hb => by
    obtain ⟨t, z, e1, e2, e3⟩ := h3.st 0 b 0 rfl hb
    have e1 : stepM a 0 b = t := e1
    rw [e1]
    rw [s0] at e3
    match t, e2 with
    | 0, e2 =>
      cases e2
      have := e3.fi
      rw [f0, f1] at this; cases this
    | 1, _ => rfl
    | t + 2, e2 => simp at e2
  have st1 : ∀ b, b < 256 → stepM a 1 b = 0 := fun b hb => by
    obtain ⟨t, z, e1, e2, e3⟩ := h3.st 1 b 1 rfl hb
    have e1 : stepM a 1 b = t := e1
    rw [e1]
    rw [s1] at e3
    match t, e2 with
    | 0, _ => rfl
    | 1, e2 =>
      cases e2
      have := e3.fi
      rw [f0, f1] at this; cases this
    | t + 2, e2 => simp at e2
  have hcells : cellsM a = [BitVec.allOnes 256] := by
    rw [h.made.sim, cellsG_congr (t := fun _ _ => true) (simO_refl a) fun b g hb hg => by
      unfold simO
      rw [List.all_eq_true]
      intro q hq
      rw [hn] at hq
      rcases two (List.mem_range.1 hq) with rfl | rfl
      · show (stepM a 0 b == stepM a 0 g) = true
        rw [st0 b hb, st0 g hg]; rfl
      · show (stepM a 1 b == stepM a 1 g) = true
        rw [st1 b hb, st1 g hg]; rfl]
    unfold cellsG
    rw [gRun_all]
    show [bvN (atSet (List.replicate 256 0) 0)] = _
    refine congrArg (fun x => [x]) ?_
    refine BitVec.eq_of_getLsbD_eq fun i hi => ?_
    rw [bvN_bit _ hi, BitVec.getLsbD_allOnes]
    unfold atSet
    rw [List.getElem?_replicate, if_pos hi]
    simp [hi]
  unfold tabM
  rw [hcells, hn]
  have e0 : (paO a).st 0 (nextM (BitVec.allOnes 256) 0).1 = 1 := by
    show (stepM a 0 _).toNat = 1
    rw [st0 _ (nextM_lt _ _)]; rfl
  have e1 : (paO a).st 1 (nextM (BitVec.allOnes 256) 0).1 = 0 := by
    show (stepM a 1 _).toNat = 0
    rw [st1 _ (nextM_lt _ _)]; rfl
  have g0 : (paO a).fi 0 = false := hfi0
  have g1 : (paO a).fi 1 = true := hfi1
  have l0 : lineM [BitVec.allOnes 256] (paO a).st (paO a).fi 0 = [48, 32, 91, 94, 93, 62, 49, 10] := by
    unfold lineM segsM
    rw [g0, List.flatMap_cons, List.flatMap_nil]
    unfold segM
    rw [show_full, e0, dN_small (by decide), dN_small (by decide)]
    rfl
  have l1 : lineM [BitVec.allOnes 256] (paO a).st (paO a).fi 1 = [49, 42, 32, 91, 94, 93, 62, 48, 10] := by
    unfold lineM segsM
    rw [g1, List.flatMap_cons, List.flatMap_nil]
    unfold segM
    rw [show_full, e1, dN_small (by decide), dN_small (by decide)]
    rfl
  unfold tableM headM linesM
  rw [show List.range 2 = [0, 1] from rfl, List.flatMap_cons, List.flatMap_cons, List.flatMap_nil, l0, l1, dN_small (by decide)]
  rfl
/-! ### a table's bytes -/
theorem dN_lt {u x : Nat} (h : x ∈ dN u) : x < 256 := by have := dN_dig u x h; omega
theorem hexD_b {n : Nat} (h : n < 16) : hexD n < 256 := by unfold hexD; split <;> omega
theorem sgl_lt {c : Nat} {sp : Bool} (hc : c < 256) {x : Nat} (h : x ∈ sglM c sp) : x < 256 := by
  have h1 := hexD_b (n := c / 16) (by omega)
  have h2 := hexD_b (n := c % 16) (by omega)
  unfold sglM at h
  split at h
  · simp at h; omega
  split at h
  · simp at h; omega
  split at h
  · simp at h; omega
  split at h
  · simp at h; omega
  split at h <;> simp at h <;> omega
theorem pie_lt {t : Nat → Bool} {i : Nat} (hi : i < 256) {x : Nat} (h : x ∈ pieM t i) : x < 256 := by
  unfold pieM rngM at h
  split at h
  · rw [List.mem_append, List.mem_append] at h
    rcases h with (h | h) | h
    · exact sgl_lt hi h
    · split at h <;> simp at h; omega
    · split at h
      · exact sgl_lt (hi_spec hi).2.1 h
      · cases h
  · cases h
theorem show_lt {c : BitVec 256} {x : Nat} (h : x ∈ showM c) : x < 256 := by
  unfold showM at h
  split at h
  · exact sgl_lt (nextM_lt _ _) h
  · rw [List.mem_append, List.mem_append] at h
    rcases h with (h | h) | h
    · split at h <;> simp at h <;> omega
    · obtain ⟨i, hi, h⟩ := List.mem_flatMap.1 h
      exact pie_lt (List.mem_range.1 hi) h
    · simp at h; omega
theorem seg_lt {st : Nat → Nat → Nat} {i : Nat} {c : BitVec 256} {x : Nat} (h : x ∈ segM st i c) : x < 256 := by
  unfold segM at h
  simp only [List.mem_append, List.mem_singleton] at h
  rcases h with ((h | h) | h) | h
  · omega
  · exact show_lt h
  · omega
  · exact dN_lt h
theorem table_lt {cells : List (BitVec 256)} {n : Nat} {st : Nat → Nat → Nat} {fi : Nat → Bool} {x : Nat} (h : x ∈ tableM cells n st fi) : x < 256 := by
  unfold tableM headM linesM lineM segsM at h
  simp only [List.mem_append, List.mem_cons, List.mem_flatMap, List.not_mem_nil, or_false] at h
  rcases h with ((h | h) | h) | h
  · omega
  · exact dN_lt h
  · omega
  · obtain ⟨i, -, h⟩ := h
    rcases h with ((h | h) | h) | h
    · exact dN_lt h
    · split at h <;> simp at h; omega
    · obtain ⟨c, -, h⟩ := h
      exact seg_lt h
    · omega
theorem bA_inj {u v : List Nat} (hu : ∀ x ∈ u, x < 256) (hv : ∀ x ∈ v, x < 256) (h : bA u = bA v) : u = v := by
  have h1 := byN_of5 hu
  have h2 := byN_of5 hv
  unfold bA at h
  rw [h, h2] at h1
  exact h1.symm
theorem tab_bA {a b : Option AM} : bA (tabM a) = bA (tabM b) ↔ tabM a = tabM b :=
  ⟨fun h => bA_inj (fun x hx => table_lt hx) (fun x hx => table_lt hx) h, fun h => by rw [h]⟩
end Go.Proofs.YthomdogheamfpaaDoor
/- louperef07.Table: the walk. -/
set_option linter.unusedVariables false
set_option linter.unusedSimpArgs false
set_option maxRecDepth 100000
namespace Go.Proofs.YthomdogheamfpaaDoor
open Go.VC Go.Lib
attribute [local irreducible] mRun gRun atRun
end Go.Proofs.YthomdogheamfpaaDoor
/- auto of the laws of layer 07. -/
set_option linter.unusedVariables false
set_option linter.unusedSimpArgs false
set_option maxRecDepth 100000
namespace Go.Proofs.YthomdogheamfpaaDoor
open Go.VC
attribute [local irreducible] mRun atRun

set_option maxHeartbeats 4000000 in
theorem auto07_c (v : Value) (cells : List (BitVec 256)) (next : List (List Int)) (final : List Bool) (S : Nat → Prop) (H : Heap) (ht : TabIn S H v cells next final) :
    FnOk Tryd.prog 16 #[v] H fun v H' => Agr (Old H) H H' ∧ H.size ≤ H'.size ∧ AutoV (Fresh H H') H' v (autoOf cells next final) := by
  obtain ⟨hS, ⟨ca, na, fa, cc, nc, fc, rfl, hc, hn, hf⟩, cn, nn, rn, fn⟩ := ht
  refine FnOk.of_vc Tryd.func16 rfl (Tryd.call16 _) ?_
  (conv => whnf); refine vbox [.slice ca cells.length cc, .slice na next.length nc, .slice fa final.length fc] rfl ?_
  intro pb H1 hpb hs1 hb1 ha1
  (conv => whnf); refine VC.fa fl26_0 ?_
  (conv => whnf); refine ld1 ct22 (by rw [hb1.cell]; rfl) trivial ?_
  (conv => whnf); refine vmakeT (T := tSet) (v := 0#256) (S := fun _ => False) sl83 (zero_set _ _) (by omega) rfl (by omega) (by omega) ?_
  intro nb H2 hnb hs2 hb2' ha2
  rw [Int.toNat_natCast] at hb2'
  have hA2 : Agr (Old H) H H2 := (ha1.mono fun j hj => by unfold Old at hj; omega).trans (ha2.mono fun j hj => by unfold Old at hj; omega)
  (conv => whnf)
  refine VLoop.mk [4] (fun k : Nat => [.int .i64 k]) (fun k H3 => k ≤ cells.length ∧ Agr (fun j => j < H2.size ∧ j ≠ nb) H2 H3 ∧ H3.size = H2.size ∧
    SlO tSet (fun _ => False) H3 H.size 73 (.slice (some ⟨nb, 0, none⟩) cells.length cells.length) (cells.take k ++ List.replicate (cells.length - k) 0#256)) (fun k _ => cells.length - k) ?_ ?_
  · (conv => whnf)
    refine ⟨0, rfl, by omega, Agr.refl _ _, rfl, ?_⟩
    rw [fill_beg]
    exact SlO.made (by omega) hb2' (zero_set _ _) (by unfold maxLen; omega)
  · rintro k H3 junk ⟨hk, ha3, hs3, hown⟩
    have hb13 := (hb1.agr ha2 (show pb < nb by omega)).agr ha3 ⟨by omega, by omega⟩
    have hA3 : Agr (Old H) H H3 := hA2.trans (ha3.mono fun j hj => by unfold Old at hj; omega)
    (conv => whnf); refine VC.fa fl26_0 ?_
    (conv => whnf); refine ld1 ct22 (by rw [hb13.cell]; rfl) trivial ?_
    (conv => whnf); refine VIte.mk (fun h => ?_) (fun h => ?_) <;> simp only [decide_eq_true_eq, decide_eq_false_iff_not] at h
    · obtain ⟨x, hx⟩ := get_some (l := cells) (k := k) (by omega)
      (conv => whnf); refine VC.fa fl26_0 ?_
      (conv => whnf); refine ld1 ct22 (by rw [hb13.cell]; rfl) trivial ?_
      (conv => whnf); refine ixr sl22 (hc.frame (hA3.mono hS)) hx rfl ?_
      rintro b4 o4 cs4 hSb4 hcells4 rfl
      (conv => whnf); refine ldN (cs := setL x) ag70 hcells4 trivial ?_
      obtain ⟨-, -, hlo5, l5, hblk5, hlen5, hget5, hput5⟩ := hown.placeS (i := k) (by rw [fill_len hk]; omega)
      (conv => whnf); refine ix sl83 (by omega) (by omega) ?_
      (conv => whnf); refine VC.stN rfl hblk5 (by rw [Nat.zero_add, Int.toNat_natCast]; exact hlen5) rfl ?_
      intro H6 hb6 ha6 hs6
      rw [Nat.zero_add, Int.toNat_natCast] at hb6
      have hown6 := hput5 H6 (setL x) x hb6 (fun j hj => hj.elim) rfl
      rw [fill_set hx] at hown6
      (conv => whnf); rw [w64 (x := (k : Int) + 1) (by omega) (by omega)]
      exact ⟨rfl, k + 1, by simp, ⟨by omega, ha3.trans (ha6.mono fun j hj => hj.2), by omega, hown6⟩, by omega⟩
    · obtain rfl : k = cells.length := by omega
      rw [fill_end] at hown
      have hSs : ∀ {H4 : Heap}, Agr (Old H3) H3 H4 → Agr S H H4 := fun h => (hA3.trans (h.mono fun k hk => old_lt hA3 hk)).mono hS
      have hSo : ∀ {H4 : Heap}, Agr (Old H3) H3 H4 → ∀ k, S k → k < H4.size := fun h k hk => old_lt h (old_lt hA3 (hS k hk))
      have fin : ∀ {H6 : Heap} {v1 v3 : Value} {nb lo1 lo2 : Nat} {vs : List Value} {K : Value → Heap → Prop}, Agr (Old H3) H3 H6 → SlO tSet (fun _ => False) H6 lo1 73 v1 cells → Tab tI (fun _ => False) H6 (nb + 1) 3 nb 33 vs next → SlO tBool (fun _ => False) H6 lo2 4 v3 final →
          (∀ v H7, Agr (Old H) H H7 → H.size ≤ H7.size → Agr (Old H3) H3 H7 → AutoV (Fresh H H7) H7 v (autoOf cells next final) → K v H7) → VCall Tryd.prog 44 #[v1, .slice (some ⟨nb, 0, none⟩) next.length next.length, v3] H6 K := fun hag h1 h2 h3 k =>
        vcall_newO h1 h2 h3 (by unfold maxLen; omega) fun v H7 h4 h5 h6 => k v H7 (hA3.trans ((hag.trans (h4.mono fun k hk => old_lt hag hk)).mono fun k hk => old_lt hA3 hk)) (by have := old_size hag; omega) (hag.trans (h4.mono fun k hk => old_lt hag hk)) (h6.mono fun k hk => ⟨by have := old_size hag; have := hk.1; omega, hk.2⟩)
      have hnb3 : nb < H3.size := by omega
      (conv => whnf)
      refine VDraw.held (Old H3) 9 (sq [0,1,2,5,6] (.b 3 (.f 4 (.f 7 (.f 8 (.f 9 .e)))) 4 (.f 3 (.f 7 (.f 8 (.f 9 .e)))))) rfl (by kernel_rfl) ?_
      (conv => whnf); refine VC.fa fl26_1 ?_
      (conv => whnf); refine ld1 ct23 (by rw [hb13.cell]; rfl) hb13.lt ?_
      (conv => whnf); refine VC.fa fl26_2 ?_
      (conv => whnf); refine ld1 ct24 (by rw [hb13.cell]; rfl) hb13.lt ?_
      (conv => whnf); refine ⟨?_, ?_⟩
      · refine VCall.mk (rows_c na nc next S H3 (hSo (Agr.refl _ _)) (hn.frame (hSs (Agr.refl _ _))) (by omega) (fun row hr => Nat.le_trans (rn row hr) (by decide))) ?_
        rintro v4 H4 ⟨ha4, hs4, mb, vs, rfl, hmb, tab⟩
        refine ⟨ha4, ?_⟩
        (conv => whnf); refine vbuild0 sl24 ?_
        intro q H5 hq hs5 hb5 ha5
        have hA5 : Agr (Old H3) H3 H5 := ha4.trans (ha5.mono fun k hk => by have := old_lt ha4 hk; omega)
        refine ⟨hA5, ?_⟩
        (conv => whnf); refine ends_c hb5 (S := S) (fun k hk => ⟨hSo hA5 k hk, by have := hSo ha4 k hk; omega⟩) (hf.frame (hSs hA5)) (by omega) ?_
        intro v6 H6 own3 ha6 hs6
        have h46 : Agr (fun k => k < H4.size) H4 H6 := (ha5.mono fun k hk => by omega).trans (ha6.mono fun k hk => by omega)
        have hA6 : Agr (Old H3) H3 H6 := ha4.trans (h46.mono fun k hk => old_lt ha4 hk)
        refine ⟨hA6, ?_⟩
        (conv => whnf); refine fin hA6 (hown.agr hA6 (fun b hb => (hown.lt hb).2) (fun _ h => h.elim)) (tab.agr h46 tab.blk.lt (fun b _ hb => hb) (fun _ h => h.elim)) own3 fun v7 H7 g1 g2 g3 g4 => ⟨g3, ?_⟩
        (conv => whnf); exact ⟨g1, g2, g4⟩
      · refine vbuild0 sl24 ?_
        intro q H4 hq hs4 hb4 ha4
        have hA4 : Agr (Old H3) H3 H4 := ha4.mono fun k hk => by unfold Old at hk; omega
        refine ⟨hA4, ?_⟩
        (conv => whnf); refine VCall.mk (rows_c na nc next S H4 (hSo hA4) (hn.frame (hSs hA4)) (by omega) (fun row hr => Nat.le_trans (rn row hr) (by decide))) ?_
        rintro v5 H5 ⟨ha5, hs5, mb, vs, rfl, hmb, tab⟩
        have hA5 := hA4.trans (ha5.mono fun k hk => old_lt hA4 hk)
        refine ⟨hA5, ?_⟩
        (conv => whnf); refine ends_c (hb4.agr ha5 hb4.lt) (S := S) (fun k hk => ⟨hSo hA5 k hk, by have := hSo (Agr.refl _ _) k hk; omega⟩) (hf.frame (hSs hA5)) (by omega) ?_
        intro v6 H6 own3 ha6 hs6
        have hA6 : Agr (Old H3) H3 H6 := hA5.trans (ha6.mono fun k hk => ⟨old_lt hA5 hk, by unfold Old at hk; omega⟩)
        refine ⟨hA6, ?_⟩
        (conv => whnf); refine fin hA6 (hown.agr hA6 (fun b hb => (hown.lt hb).2) (fun _ h => h.elim)) (tab.agr ha6 ⟨tab.blk.lt, by omega⟩ (fun b h1 h2 => ⟨h2, by omega⟩) (fun _ h => h.elim)) own3 fun v7 H7 g1 g2 g3 g4 => ⟨g3, ?_⟩
        (conv => whnf); exact ⟨g1, g2, g4⟩

end Go.Proofs.YthomdogheamfpaaDoor
/- The laws MinimCanons and MinimTables: the walks. -/
set_option linter.unusedVariables false
set_option linter.unusedSimpArgs false
set_option maxRecDepth 100000
namespace Go.Proofs.YthomdogheamfpaaDoor
open Go.VC Go.Lib
attribute [local irreducible] mRun gRun atRun odd7M
theorem none_made : IsMade none := ⟨[], [], [], rfl⟩
theorem none_auto {S : Nat → Prop} {H : Heap} : AutoV S H (.pointer none) none := rfl
/-- What minim.Table answers. -/
theorem table_c {S : Nat → Prop} {H : Heap} {v : Value} {o : Option AM} (hS : ∀ k, S k → k < H.size) (hv : AutoV S H v o) (hm : IsMade o) (hpow : PowH Tryd.prog H) (hE : EscH H) :
    FnOk Tryd.prog 19 #[v] H fun r H' => Agr (Old H) H H' ∧ ∃ a, IsCan o a ∧ r = .string (bA (tabM a)) := by
  refine (table7_c hS hv hm.ok hpow hE).mono ?_
  rintro r H' ⟨ha, rows, O, A, hA, hsd, hin, hld, hrl, hr⟩
  subst hA
  have hc := isCan_of (o := o) hm.steps hsd hin hld hrl
  refine ⟨ha, _, hc, ?_⟩
  have hn : stN (some (madeM (cellsM o) (rows.map rowI) (O.map fun (x : Nat) => finM o (x : Int)))) = O.length := by
    show (madeM (cellsM o) (rows.map rowI) (O.map fun (x : Nat) => finM o (x : Int))).next.length = _
    unfold madeM
    simp [hrl]
  rw [hr, ← hn]
  rfl
/-- What minim.Canon answers. -/
theorem canonA_c {S : Nat → Prop} {H : Heap} {v : Value} {o : Option AM} (hS : ∀ k, S k → k < H.size) (hv : AutoV S H v o) (hm : IsMade o) (hpow : PowH Tryd.prog H) :
    FnOk Tryd.prog 15 #[v] H fun r H' => Agr (Old H) H H' ∧ ∃ a, IsCan o (some a) ∧ AutoV (fun k => H.size ≤ k ∧ k < H'.size) H' r (some a) := by
  refine (canon_c hS hv hm.ok hpow).mono ?_
  rintro r H' ⟨ha, rows, O, hsd, hv', hin, hld, hrl⟩
  exact ⟨ha, _, isCan_of (o := o) hm.steps hsd hin hld hrl, hv'⟩
theorem speaks07_p {H : Heap} (hpow : PowH Tryd.prog H) (hE : EscH H) : Pure Tryd.prog 13 #[] H (.bool true) := by
  refine FnOk.of_vc Tryd.func13 rfl (Tryd.call13 _) ?_
  (conv => whnf); refine VCall.mk (odd7_c H) ?_
  rintro va H1 ⟨ha1, hva⟩
  (conv => whnf); refine VCall.mk (differ_c (S := Old H1) (fun k hk => hk) hva none_auto odd7_made.ok none_made.ok) ?_
  rintro _ H2 ⟨ha2, w, ok, rfl, hR⟩
  obtain ⟨rfl, rfl⟩ := odd7_differ hR
  have h12 := ha1.trans (ha2.mono fun k hk => old_lt ha1 hk)
  have e1 : ((bA [0]).toList == (⟨#[0]⟩ : ByteArray).toList) = true := by
    rw [show bA [0] = (⟨#[0]⟩ : ByteArray) from rfl]
    exact beq_self_eq_true _
  (conv => whnf); rw [e1]
  (conv => whnf); refine VCall.mk (odd7_c H2) ?_
  rintro vb H3 ⟨ha3, hvb⟩
  have h13 := h12.trans (ha3.mono fun k hk => old_lt h12 hk)
  (conv => whnf); refine VCall.mk (table_c (S := Old H3) (fun k hk => hk) hvb odd7_made (hpow.agr h13) (hE.agr h13)) ?_
  rintro _ H4 ⟨ha4, a, hc, rfl⟩
  rw [odd7_tab hc]
  have e2 : ((bA [115, 116, 97, 116, 101, 115, 32, 50, 10, 48, 32, 91, 94, 93, 62, 49, 10, 49, 42, 32, 91, 94, 93, 62, 48, 10]).toList == (⟨#[115, 116, 97, 116, 101, 115, 32, 50, 10, 48, 32, 91, 94, 93, 62, 49, 10, 49, 42, 32, 91, 94, 93, 62, 48, 10]⟩ : ByteArray).toList) = true := by
    rw [show bA [115, 116, 97, 116, 101, 115, 32, 50, 10, 48, 32, 91, 94, 93, 62, 49, 10, 49, 42, 32, 91, 94, 93, 62, 48, 10] = (⟨#[115, 116, 97, 116, 101, 115, 32, 50, 10, 48, 32, 91, 94, 93, 62, 49, 10, 49, 42, 32, 91, 94, 93, 62, 48, 10]⟩ : ByteArray) from rfl]
    exact beq_self_eq_true _
  (conv => whnf); rw [e2]
  (conv => whnf)
  exact ⟨rfl, h13.trans (ha4.mono fun k hk => old_lt h13 hk)⟩
end Go.Proofs.YthomdogheamfpaaDoor
/- The law MinimOneTable: the walk. -/
set_option linter.unusedVariables false
set_option linter.unusedSimpArgs false
set_option maxRecDepth 100000
namespace Go.Proofs.YthomdogheamfpaaDoor
open Go.VC Go.Lib
attribute [local irreducible] mRun gRun atRun odd7M
theorem bytes_beq {u v : ByteArray} : (u.toList == v.toList) = true ↔ u = v := by
  constructor
  · intro h
    have h := eq_of_beq h
    rw [ByteArray.toList_eq, ByteArray.toList_eq] at h
    exact ByteArray.ext (Array.toList_inj.1 h)
  · rintro rfl
    exact beq_self_eq_true _
theorem bytes_bne {u v : ByteArray} (h : u ≠ v) : (u.toList == v.toList) = false := by
  cases hb : (u.toList == v.toList) with
  | false => rfl
  | true => exact absurd (bytes_beq.1 hb) h
theorem tabs_beq {o p a b : Option AM} {w : List Nat} {ok : Bool} (ho : IsMade o) (hp : IsMade p) (ha : IsCan o a) (hb : IsCan p b) (hR : FirstR (askG xorB o p) w ok) : ((bA (tabM a)).toList == (bA (tabM b)).toList) = !ok := by
  have h := (ha.tab hb).trans (ask_same ho.steps hp.steps hR).symm
  cases ok with
  | false => rw [h.2 rfl]; exact beq_self_eq_true _
  | true => exact bytes_bne fun e => by have := h.1 (tab_bA.1 e); cases this
set_option maxHeartbeats 4000000 in
theorem minimOneTable_p (v : Value) (cells : List (BitVec 256)) (next : List (List Int)) (final : List Bool) (v' : Value) (cells' : List (BitVec 256)) (next' : List (List Int)) (final' : List Bool) (S : Nat → Prop) (H : Heap) (ht : TabIn S H v cells next final) (hu : TabIn S H v' cells' next' final') (hpow : PowH Tryd.prog H) (hE : EscH H) :
    Pure Tryd.prog 5 #[v, v'] H (.bool true) := by
  refine FnOk.of_vc Tryd.func5 rfl (Tryd.call5 _) ?_
  (conv => whnf); refine tab_box ht fun l hl hv => ?_
  intro p H1 hp hs1 hb1 ha1
  have st1 := (St.nil H).box hp hs1 hb1 ha1
  (conv => whnf); refine tab_box (hu.frame st1.old) fun l' hl' hv' => ?_
  intro p' H2 hp' hs2 hb2 ha2
  have st2 := st1.box hp' hs2 hb2 ha2
  (conv => whnf); refine pures (speaks07_p (hpow.agr st2.old) (hE.agr st2.old)) fun H3 ha3 => ?_
  have st3 := st2.call ha3
  (conv => whnf); refine VDraw.held (Old H3) 5 (sq [0,2] (.f 1 (.f 3 (sq [4] (.f 5 .e))))) rfl (by kernel_rfl) ?_
  (conv => whnf); refine tab_load hl hv (st3.blk 0 rfl) (st3.blk 0 rfl).lt ?_
  (conv => whnf); refine tab_load hl' hv' (st3.blk 1 rfl) (st3.blk 1 rfl).lt ?_
  (conv => whnf); refine VCall.mk (auto07_c v cells next final S H3 (ht.frame st3.old)) ?_
  rintro va H4 ⟨ha4, hs4, hva⟩
  have st4 := st3.call ha4
  refine ⟨ha4, ?_⟩
  (conv => whnf); refine VCall.mk (auto07_c v' cells' next' final' S H4 (hu.frame st4.old)) ?_
  rintro vb H5 ⟨ha5, hs5, hvb⟩
  have st5 := st4.call ha5
  have h35 := ha4.trans (ha5.mono fun k hk => old_lt ha4 hk)
  refine ⟨h35, ?_⟩
  have hma : IsMade (autoOf cells next final) := ⟨_, _, _, rfl⟩
  have hmb : IsMade (autoOf cells' next' final') := ⟨_, _, _, rfl⟩
  have hva5 : AutoV (Old H5) H5 va (autoOf cells next final) := (hva.frame (ha5.mono fun k hk => hk.2)).mono fun k hk => old_lt ha5 hk.2
  have hvb5 : AutoV (Old H5) H5 vb (autoOf cells' next' final') := hvb.mono fun k hk => hk.2
  generalize autoOf cells next final = a at *
  generalize autoOf cells' next' final' = b at *
  have up : ∀ {G : Heap}, Agr (Old H5) H5 G → ∀ k, Old H5 k → k < G.size := fun h k hk => old_lt h hk
  have hpow5 := hpow.agr st5.old
  have hE5 := hE.agr st5.old
  (conv => whnf); refine VCall.mk (table_c (S := Old H5) (fun k hk => hk) hva5 hma hpow5 hE5) ?_
  rintro _ H6 ⟨ha6, x, hx, rfl⟩
  (conv => whnf); refine VCall.mk (table_c (S := Old H5) (up ha6) (hvb5.frame ha6) hmb (hpow5.agr ha6) (hE5.agr ha6)) ?_
  rintro _ H7 ⟨ha7, y, hy, rfl⟩
  have h57 := ha6.trans (ha7.mono fun k hk => old_lt ha6 hk)
  (conv => whnf); refine VCall.mk (differ_c (S := Old H5) (up h57) (hva5.frame h57) (hvb5.frame h57) hma.ok hmb.ok) ?_
  rintro _ H8 ⟨ha8, w, ok, rfl, hR⟩
  have h58 := h57.trans (ha8.mono fun k hk => old_lt h57 hk)
  have hxy := tabs_beq hma hmb hx hy hR
  (conv => whnf); rw [hxy]
  (conv => whnf); refine neqZ Tryd.underlying4 (show ((!ok) != ok) = true by cases ok <;> rfl) ?_
  (conv => whnf); refine VCall.mk (same_c7 (S := Old H5) (up h58) (hva5.frame h58) (hvb5.frame h58) hma.ok hmb.ok) ?_
  rintro _ H9 ⟨ha9, w', ok', rfl, hR'⟩
  obtain ⟨rfl, rfl⟩ := hR.uniq hR'
  have h59 := h58.trans (ha9.mono fun k hk => old_lt h58 hk)
  (conv => whnf); rw [hxy]
  (conv => whnf); refine eqZ Tryd.underlying4 (show ((!ok) == (!ok)) = true by simp) ?_
  (conv => whnf); refine VCall.mk (canonA_c (S := Old H5) (up h59) (hva5.frame h59) hma (hpow5.agr h59)) ?_
  rintro vc H10 ⟨ha10, c, hc, hvc⟩
  have h510 := h59.trans (ha10.mono fun k hk => old_lt h59 hk)
  (conv => whnf); refine VCall.mk (table_c (S := fun k => H9.size ≤ k ∧ k < H10.size) (fun k hk => hk.2) hvc hc.made (hpow5.agr h510) (hE5.agr h510)) ?_
  rintro _ H11 ⟨ha11, z, hz, rfl⟩
  have h511 := h510.trans (ha11.mono fun k hk => old_lt h510 hk)
  have hzx : ((bA (tabM z)).toList == (bA (tabM x)).toList) = true := by
    rw [(hz.tab hx).2 hc.lang]
    exact beq_self_eq_true _
  (conv => whnf); rw [hzx]
  (conv => whnf)
  exact ⟨rfl, st5.old.trans (h511.mono fun k hk => old_lt st5.old hk)⟩
end Go.Proofs.YthomdogheamfpaaDoor
/- The library's table of powers, out of a row's list. -/
set_option linter.unusedVariables false
set_option maxRecDepth 100000
namespace Go.Proofs.YthomdogheamfpaaDoor
open Go.VC Go.Lib
theorem pow_g : Tryd.prog.globalNamed powN = some 1 := by kernel_rfl
theorem pow_gt : (Tryd.prog.globals[1]?).map (·.type) = some 225 := by kernel_rfl
theorem pow_c : Tryd.prog.cellsOf 225 = 20 := by kernel_rfl
theorem pow_c1 : Tryd.prog.cellsOf 69 = 1 := by kernel_rfl
theorem pow_data : (Rows.laid_internal_strconv_uint64pow10 : DataW Unit) = tabData .u64 pow10Tab := by kernel_rfl
end Go.Proofs.YthomdogheamfpaaDoor
/- A world for the witness: the tables of the library hold what their initialisers lay. -/
set_option linter.unusedVariables false
set_option maxRecDepth 100000
namespace Go.Proofs.YthomdogheamfpaaDoor
open Go.VC Go.Lib
def tab32 : List Int := [0, 1, 28, 2, 29, 14, 24, 3, 30, 22, 20, 15, 25, 17, 4, 8, 31, 27, 13, 23, 21, 19, 16, 7, 26, 12, 18, 6, 11, 5, 10, 9]
def tab32V : Array Value := (tab32.map (Value.int .u8)).toArray
def tab64 : List Int := [0, 1, 56, 2, 57, 49, 28, 3, 61, 58, 42, 50, 38, 29, 17, 4, 62, 47, 59, 36, 45, 43, 51, 22, 53, 39, 33, 30, 24, 18, 12, 5, 63, 55, 48, 27, 60, 41, 37, 16, 46, 35, 44, 21, 52, 32, 23, 11, 54, 26, 40, 15, 34, 20, 31, 10, 25, 14, 19, 9, 13, 8, 7, 6]
def tab64V : Array Value := (tab64.map (Value.int .u8)).toArray
def tabP10 : List Int := [1, 10, 100, 1000, 10000, 100000, 1000000, 10000000, 100000000, 1000000000, 10000000000, 100000000000, 1000000000000, 10000000000000, 100000000000000, 1000000000000000, 10000000000000000, 100000000000000000, 1000000000000000000, 10000000000000000000]
def tabP10V : Array Value := (tabP10.map (Value.int .u64)).toArray
def putTab (vs : Array Value) : Obj → Obj
  | .cells _ t frozen => .cells vs t frozen
  | o => o
noncomputable def laidW (os : Os) : World :=
  { World.holding Tryd.prog os ⟨#[], #[], []⟩ with heap := (((World.holding Tryd.prog os ⟨#[], #[], []⟩).heap.modify 3 (putTab tab32V)).modify 4 (putTab tab64V)).modify 1 (putTab tabP10V) }
end Go.Proofs.YthomdogheamfpaaDoor
/- The library's table of powers and the table of escapes, out of a Minim row's list; a world for the witness. -/
set_option linter.unusedVariables false
set_option linter.unusedSimpArgs false
set_option maxRecDepth 100000
namespace Go.Proofs.YthomdogheamfpaaDoor
open Go.VC Go.Lib
open Go.ChangeShapes Go.WideShapes Go.ChangeAt Go.RowKit
theorem esc_g : Tryd.prog.globalNamed "loupe/class.escapes" = some 0 := by kernel_rfl
theorem esc_gt : (Tryd.prog.globals[0]?).map (·.type) = some 200 := by kernel_rfl
theorem esc_c : Tryd.prog.cellsOf 200 = 6 := by kernel_rfl
theorem esc_c2 : Tryd.prog.cellsOf 199 = 2 := by kernel_rfl
theorem esc_u : Tryd.prog.underlying 200 = some (.array 3 199) := by kernel_rfl
theorem pair_u8 {enc : TypeId × Value → Unit} {w : World} {base : Nat} {sp : Nat → Bool} {held : Bool} {fuel : Nat} {cs : List Value} {a b : Int} {p : List MemPlace}
    (h : DataW.trod enc Tryd.prog w base sp held fuel 199 cs = some (.agg [.lit (.int .u8 a), .lit (.int .u8 b)], p)) : cs = [.int .u8 a, .int .u8 b] := by
  obtain ⟨y0, y1, m, e, hl, h0, h1⟩ := trod_struct2 Tryd.underlying199 h
  obtain ⟨n0, e0, r0, -⟩ := DataW.trod_int Tryd.underlying5 h0
  obtain ⟨n1, e1, r1, -⟩ := DataW.trod_int Tryd.underlying5 h1
  subst r0; subst r1
  injection e with e2 e3
  injection e2 with e2
  simp only [List.cons.injEq, DataW.lit.injEq, Lit.int.injEq, true_and, and_true] at e2
  rw [esc_c2] at hl
  match cs, hl with
  | [x, y], _ =>
    have e0 : [x] = [Value.int .u8 n0] := e0
    have e1 : [y] = [Value.int .u8 n1] := e1
    injection e0 with e0
    injection e1 with e1
    rw [e0, e1, ← e2.1, ← e2.2]
theorem esc_cells {enc : TypeId × Value → Unit} {w : World} {base : Nat} {sp : Nat → Bool} {held : Bool} {fuel : Nat} {cs : List Value} {p : List MemPlace}
    (h : DataW.trod enc Tryd.prog w base sp held fuel 200 cs = some (Rows.laid_loupe_class_escapes, p)) : cs = escL := by
  obtain ⟨xs, m, -, e, hl, hx, hi⟩ := DataW.trod_array esc_u h
  rw [esc_c] at hl
  injection e with e1 e2
  have e1 : (Rows.laid_loupe_class_escapes : DataW Unit) = .agg (xs.map (·.1)) := e1
  unfold Rows.laid_loupe_class_escapes at e1
  injection e1 with e1
  match xs, hx with
  | [x0, x1, x2], _ =>
    simp only [List.map_cons, List.map_nil, List.cons.injEq, and_true] at e1
    obtain ⟨r0, r1, r2⟩ := e1
    have h0 := hi 0 (by decide)
    have h1 := hi 1 (by decide)
    have h2 := hi 2 (by decide)
    rw [esc_c2] at h0 h1 h2
    have k0 := pair_u8 (p := x0.2) (h0.trans (by rw [r0]; rfl))
    have k1 := pair_u8 (p := x1.2) (h1.trans (by rw [r1]; rfl))
    have k2 := pair_u8 (p := x2.2) (h2.trans (by rw [r2]; rfl))
    match cs, hl with
    | [a, b, c, d, e, f], _ =>
      have k0 : [a, b] = _ := k0
      have k1 : [c, d] = _ := k1
      have k2 : [e, f] = _ := k2
      simp only [List.cons.injEq, and_true] at k0 k1 k2
      obtain ⟨rfl, rfl⟩ := k0
      obtain ⟨rfl, rfl⟩ := k1
      obtain ⟨rfl, rfl⟩ := k2
      rfl
theorem tabs_of_laid {W : World} (h : laidMetH Tryd.prog Rows.minimCanonsUptoRow.laid W) : PowH Tryd.prog W.heap ∧ EscH W.heap := by
  obtain ⟨ps, ⟨g0, t0, cs0, f0, p0, q0, hg0, ht0, hv0, hd0, ⟨g1, t1, cs1, f1, p1, q1, hg1, ht1, hv1, hd1, ⟨g2, t2, cs2, f2, p2, q2, hg2, ht2, hv2, hd2, ⟨g3, t3, cs3, f3, p3, q3, hg3, ht3, hv3, hd3, -, -⟩, -⟩, -⟩, -⟩, -⟩ := h
  constructor
  · have hW : TabIs Tryd.prog W powN .u64 pow10Tab := by
      obtain rfl := Option.some.inj (pow_g.symm.trans hg2)
      obtain rfl := Option.some.inj (pow_gt.symm.trans ht2)
      rw [pow_data] at hd2
      unfold TabIs
      rw [hv2, ← cells_of_tab Tryd.underlying225 Tryd.underlying69 pow_c1 pow_c hd2]
    intro w hw
    exact var_agr hW fun k _ => by rw [hw]
  · obtain rfl := Option.some.inj (esc_g.symm.trans hg3)
    obtain rfl := Option.some.inj (esc_gt.symm.trans ht3)
    have hc := esc_cells hd3
    refine ⟨fun j v hj => ?_, ?_⟩
    · have := World.var?_cell esc_g hv3 j
      rw [Nat.zero_add]
      have h2 : cs3[j]? = some v := by
        rw [← Array.getElem?_toList, hc]
        exact hj
      rw [h2] at this
      exact this
    · unfold World.var? at hv3
      rw [esc_g] at hv3
      apply Classical.byContradiction
      intro hn
      simp only [Option.bind_some] at hv3
      rw [Array.getElem?_eq_none (by omega)] at hv3
      simp at hv3
noncomputable def laidW7 (os : Os) : World :=
  { laidW os with heap := (laidW os).heap.modify 0 (putTab escL.toArray) }
end Go.Proofs.YthomdogheamfpaaDoor
/- Reading arguments: what the form says of them, as typed views. -/
set_option linter.unusedVariables false
set_option linter.unusedSimpArgs false
namespace Go.VC
open Go.Proofs.YthomdogheamfpaaDoor.Rows (uptoBulk uptoBulkAll)
def InW (W : World) (k : Nat) : Prop := k < W.heap.size
def Opens {H : Type} (enc : TypeId × Value → H) (P : Program) (W : World) {α : Type} (T : Ty α) (sz : α → Nat) (t : TypeId) : Prop :=
  ∀ fuel cs d ps, DataW.trod enc P W 0 (fun _ => true) true fuel t cs = some (d, ps) → ∃ x, T.rep (InW W) W.heap cs x ∧ sz x ≤ uptoBulk d
/-- How many values a list bears. -/
def szL {α : Type} (sz : α → Nat) : List α → Nat
  | [] => 1
  | x :: xs => sz x + szL sz xs
theorem szL_snoc {α : Type} (sz : α → Nat) (x : α) : ∀ xs : List α, szL sz (xs ++ [x]) = szL sz xs + sz x
  | [] => by simp [szL]; omega
  | y :: ys => by simp only [List.cons_append, szL, szL_snoc sz x ys]; omega
theorem szL_len {α : Type} {sz : α → Nat} (h : ∀ x, 1 ≤ sz x) : ∀ xs : List α, xs.length + 1 ≤ szL sz xs
  | [] => Nat.le_refl _
  | y :: ys => by have := szL_len h ys; have := h y; simp only [List.length_cons, szL]; omega
theorem szL_mem {α : Type} {sz : α → Nat} {x : α} : ∀ {xs : List α}, x ∈ xs → sz x ≤ szL sz xs
  | [], h => by cases h
  | y :: ys, h => by
    rcases List.mem_cons.1 h with rfl | h
    · simp only [szL]; omega
    · have := szL_mem (sz := sz) h; simp only [szL]; omega
theorem bulkAll_snoc {H : Type} (d : DataW H) : ∀ ds : List (DataW H), uptoBulkAll (ds ++ [d]) = uptoBulkAll ds + uptoBulk d
  | [] => by simp [uptoBulkAll]
  | y :: ys => by simp only [List.cons_append, uptoBulkAll, bulkAll_snoc d ys]; omega
section
variable {H : Type} {enc : TypeId × Value → H} {P : Program} {W : World} {t e : TypeId}
theorem opens_int {k : IntKind} (ht : P.underlying t = some (.int k)) : Opens enc P W (tInt k) (fun _ => 1) t := by
  intro fuel cs d ps h
  obtain ⟨n, rfl, hd, hw⟩ := DataW.trod_int ht h
  cases hd
  simp only [Lit.wf, Bool.and_eq_true, decide_eq_true_eq] at hw
  exact ⟨n, ⟨rfl, hw⟩, by simp [uptoBulk]⟩
theorem opens_bool (ht : P.underlying t = some .bool) : Opens enc P W tBool (fun _ => 1) t := by
  intro fuel cs d ps h
  obtain ⟨b, rfl, hd⟩ := DataW.trod_bool ht h
  cases hd
  exact ⟨b, rfl, by simp [uptoBulk]⟩
theorem cells_get {a : Addr} {n : Nat} {cs : List Value} (h : W.cells? 0 a n = some cs) (hn : 0 < n) : cs.length = n ∧ a.spot = none ∧ a.block < W.heap.size ∧ Cells W.heap a.block a.off cs := by
  unfold World.cells? at h
  rw [if_pos (Nat.zero_le _)] at h
  have hl := mapM_some_length h
  rw [List.length_range] at hl
  have hg : ∀ j, j < n → W.cell? (a.add j) = cs[j]? := fun j hj => mapM_some_get h j j (by simp [hj])
  obtain ⟨v0, hv0⟩ : ∃ v, cs[0]? = some v := ⟨cs[0]'(by omega), List.getElem?_eq_getElem (by omega)⟩
  have h0 := hg 0 hn
  rw [hv0] at h0
  have hsp : a.spot = none := by
    cases hs : a.spot with
    | none => rfl
    | some x =>
      unfold World.cell? at h0
      split at h0
      · simp [Addr.add, hs] at h0
      · cases h0
  refine ⟨hl, hsp, ?_, fun j v hv => ?_⟩
  · unfold World.cell? at h0
    split at h0
    · rename_i he
      exact (Array.getElem?_eq_some_iff.1 he).1
    · cases h0
  · have hj := (List.getElem?_eq_some_iff.1 hv).1
    have := hg j (by omega)
    rw [hv] at this
    rw [← cell_w]
    obtain ⟨b, o, sp⟩ := a
    simp only at hsp
    subst hsp
    rw [Addr.add_mid] at this
    exact this
theorem opens_slice {α : Type} {T : Ty α} {sz : α → Nat} (ht : P.underlying t = some (.slice e)) (hc : P.cellsOf e = T.size) (h0 : 0 < T.size) (he : Opens enc P W T sz e) : Opens enc P W (tSl T) (szL sz) t := by
  intro fuel cs d ps h
  rcases DataW.trod_slice ht h with ⟨rfl, hd⟩ | ⟨a, len, cap, elems, rest, n, rfl, rfl, hd, -, hl, hm, hel, hget, hsp, -⟩
  · cases hd
    exact ⟨[], ⟨none, 0, rfl, rfl, rfl⟩, by simp [szL, uptoBulk]⟩
  · cases hd
    obtain ⟨hrl, hrest⟩ := hsp rfl
    rw [hc] at hget hrest
    by_cases hcap : cap = 0
    · obtain rfl : len = 0 := by omega
      exact ⟨[], ⟨some a, cap, rfl, by simp, hm, .inl hcap⟩, by simp [szL, uptoBulk]⟩
    · have hsb : a.spot = none ∧ a.block < W.heap.size := by
        have key : ∀ y, (W.cells? 0 (a.add (0 * T.size)) T.size).bind (DataW.trod enc P W 0 (fun _ => true) true n e) = some y → a.spot = none ∧ a.block < W.heap.size := by
          intro y hy
          obtain ⟨c, hc1, hc2⟩ := Option.bind_eq_some_iff.1 hy
          obtain ⟨g1, g2, g3, g4⟩ := cells_get hc1 h0
          rw [Nat.zero_mul] at g2 g3
          unfold Addr.add at g2 g3
          split at g2 <;> simp_all
        by_cases hil : 0 < len
        · exact key _ ((hget 0 hil).trans (List.getElem?_eq_getElem (by omega)))
        · have := hrest 0 (by omega)
          rw [show len + 0 = 0 by omega] at this
          exact key _ (this.trans (List.getElem?_eq_getElem (by omega)))
      obtain ⟨b, o, sp⟩ := a
      obtain ⟨rfl, hb⟩ := hsb
      have build : ∀ m, m ≤ len → ∃ ec xs, xs.length = m ∧ Cells W.heap b o ec ∧ T.reps (InW W) W.heap ec xs ∧ szL sz xs ≤ uptoBulkAll ((elems.take m).map (·.1)) + 1 := by
        intro m
        induction m with
        | zero => exact fun _ => ⟨[], [], rfl, (fun j v hv => by simp at hv), rfl, by simp [szL]⟩
        | succ m ih =>
          intro hm'
          obtain ⟨ec, xs, h1, h2, h3, hz⟩ := ih (by omega)
          have hy : elems[m]? = some (elems[m]'(by omega)) := List.getElem?_eq_getElem (by omega)
          obtain ⟨c, h4, hc2⟩ := Option.bind_eq_some_iff.1 ((hget m (by omega)).trans hy)
          obtain ⟨x, h5, hzx⟩ := he n c _ _ hc2
          obtain ⟨g1, g2, g3, g4⟩ := cells_get h4 h0
          rw [Addr.add_mid] at g4
          have hel := Ty.reps_len h3
          refine ⟨ec ++ c, xs ++ [x], by simp [h1], fun j v hv => ?_, Ty.reps_snoc h3 h5, ?_⟩
          · by_cases hj : j < ec.length
            · rw [List.getElem?_append_left hj] at hv
              exact h2 j v hv
            · rw [List.getElem?_append_right (by omega)] at hv
              have := g4 _ v hv
              simp only at this
              rw [show o + m * T.size + (j - ec.length) = o + j by rw [hel, h1] at *; omega] at this
              exact this
          · rw [szL_snoc, List.take_add_one, hy, Option.toList_some, List.map_append, List.map_singleton, bulkAll_snoc]
            refine Nat.le_trans (Nat.add_le_add hz hzx) ?_
            rw [Nat.add_right_comm]
            exact Nat.le_refl _
      obtain ⟨ec, xs, h1, h2, h3, hz⟩ := build len (Nat.le_refl _)
      rw [List.take_of_length_le (by omega)] at hz
      refine ⟨xs, ⟨_, cap, by rw [h1], SlD.intro hb (by omega) hm h2 h3⟩, ?_⟩
      simp only [uptoBulk]
      omega
end

end Go.VC
/- Sets as arguments. -/
set_option linter.unusedVariables false
set_option linter.unusedSimpArgs false
set_option maxRecDepth 100000
namespace Go.Proofs.YthomdogheamfpaaDoor
open Go.VC Go
def ofWd (a b c d : Nat) : BitVec 256 := BitVec.ofNat 256 (a + 2 ^ 64 * (b + 2 ^ 64 * (c + 2 ^ 64 * d)))
theorem wd_of {a b c d : Nat} (ha : a < 2 ^ 64) (hb : b < 2 ^ 64) (hc : c < 2 ^ 64) (hd : d < 2 ^ 64) : wd (ofWd a b c d) 0 = a ∧ wd (ofWd a b c d) 1 = b ∧ wd (ofWd a b c d) 2 = c ∧ wd (ofWd a b c d) 3 = d := by
  have h : (ofWd a b c d).toNat = a + 2 ^ 64 * (b + 2 ^ 64 * (c + 2 ^ 64 * d)) := by
    unfold ofWd
    rw [BitVec.toNat_ofNat]
    exact Nat.mod_eq_of_lt (by omega)
  unfold wd
  simp only [h, Nat.shiftRight_eq_div_pow]
  refine ⟨?_, ?_, ?_, ?_⟩ <;> omega

theorem opens_set {H : Type} {enc : TypeId × Value → H} {P : Program} {W : World} {t e : TypeId} (ht : P.underlying t = some (.array 4 e)) (he : P.underlying e = some (.int .u64)) (hc : P.cellsOf e = 1) (h4 : P.cellsOf t = 4) : Opens enc P W tSet (fun _ => 1) t := by
  intro fuel cs d ps h
  obtain ⟨xs, m, rfl, hd, hl, hx, hg⟩ := DataW.trod_array ht h
  cases hd
  rw [h4] at hl
  rw [hc] at hg
  match cs, hl with
  | [c0, c1, c2, c3], _ =>
    have one : ∀ (i : Nat) (c : Value), i < 4 → ([c0, c1, c2, c3].drop (i * 1)).take 1 = [c] → ∃ n : Nat, c = .int .u64 (n : Int) ∧ n < 2 ^ 64 := by
      intro i c hi hd
      have := hg i hi
      rw [hd, List.getElem?_eq_getElem (by omega)] at this
      obtain ⟨n, h1, -, hw⟩ := DataW.trod_int he this
      cases h1
      simp only [Lit.wf, Bool.and_eq_true, decide_eq_true_eq] at hw
      have m0 : IntKind.u64.min = 0 := rfl
      have m1 : IntKind.u64.max = 18446744073709551615 := rfl
      obtain ⟨k, rfl⟩ := Int.eq_ofNat_of_zero_le (show 0 ≤ n by omega)
      exact ⟨k, rfl, by omega⟩
    obtain ⟨n0, rfl, b0⟩ := one 0 c0 (by decide) rfl
    obtain ⟨n1, rfl, b1⟩ := one 1 c1 (by decide) rfl
    obtain ⟨n2, rfl, b2⟩ := one 2 c2 (by decide) rfl
    obtain ⟨n3, rfl, b3⟩ := one 3 c3 (by decide) rfl
    obtain ⟨w0, w1, w2, w3⟩ := wd_of b0 b1 b2 b3
    refine ⟨ofWd n0 n1 n2 n3, ?_, by simp [Rows.uptoBulk]⟩
    show _ = setL _
    unfold setL
    rw [w0, w1, w2, w3]

end Go.Proofs.YthomdogheamfpaaDoor
/- Tables as arguments. -/
set_option linter.unusedVariables false
set_option linter.unusedSimpArgs false
set_option maxRecDepth 100000
namespace Go.Proofs.YthomdogheamfpaaDoor
open Go.VC Go
/-- A table, as it is handed in. -/
structure TableV (W : World) (v : Value) (cells : List (BitVec 256)) (next : List (List Int)) (final : List Bool) : Prop where
  rep : ∃ ca na fa cc nc fc, v = .agg #[.slice ca cells.length cc, .slice na next.length nc, .slice fa final.length fc] ∧ SlD tSet (InW W) W.heap ca cc cells ∧ SlD tRows (InW W) W.heap na nc next ∧ SlD tBool (InW W) W.heap fa fc final
theorem open_table {H : Type} {enc : TypeId × Value → H} {W : World} {base : Nat} {v : Value} {d : DataW H} {ps : List MemPlace} (hval : Value.okWide Tryd.prog W .any base 26 v) (h : DataW.Trod enc Tryd.prog W 0 (fun _ => true) true 26 v d ps) :
    ∃ cells next final, TableV W v cells next final ∧ szL (fun _ => 1) cells + szL (szL fun _ => 1) next + szL (fun _ => 1) final ≤ Rows.uptoBulk d := by
  obtain ⟨fuel, h⟩ := h
  have hu := Tryd.underlying26
  obtain ⟨xs, m, rfl, hd, hl, hx, hg⟩ := DataW.trod_struct hu h
  cases hd
  have h3 : Tryd.prog.cellsOf 26 = 3 := by kernel_rfl
  simp only [Value.okWide, hu] at hval
  obtain ⟨cs, rfl, hsz, -⟩ := hval
  rw [h3] at hsz
  obtain ⟨l⟩ := cs
  match l, hsz with
  | [c0, c1, c2], _ =>
    have k1 : Tryd.prog.cellsOf 22 = 1 := by kernel_rfl
    have k2 : Tryd.prog.cellsOf 23 = 1 := by kernel_rfl
    have k3 : Tryd.prog.cellsOf 24 = 1 := by kernel_rfl
    have hx3 : xs.length = 3 := hx
    match xs, hx3 with
    | [x0, x1, x2], _ =>
      have g0 : DataW.trod enc Tryd.prog W 0 (fun _ => true) true m 22 (List.take (Tryd.prog.cellsOf 22) [c0, c1, c2]) = some x0 := hg 0 _ rfl
      have g1 : DataW.trod enc Tryd.prog W 0 (fun _ => true) true m 23 (List.take (Tryd.prog.cellsOf 23) [c1, c2]) = some x1 := hg 1 _ rfl
      have g2 : DataW.trod enc Tryd.prog W 0 (fun _ => true) true m 24 (List.take (Tryd.prog.cellsOf 24) [c2]) = some x2 := hg 2 _ rfl
      rw [k1] at g0
      rw [k2] at g1
      rw [k3] at g2
      replace g0 : DataW.trod enc Tryd.prog W 0 (fun _ => true) true m 22 [c0] = some x0 := g0
      replace g1 : DataW.trod enc Tryd.prog W 0 (fun _ => true) true m 23 [c1] = some x1 := g1
      replace g2 : DataW.trod enc Tryd.prog W 0 (fun _ => true) true m 24 [c2] = some x2 := g2
      have s1 : Tryd.prog.cellsOf 70 = tSet.size := by kernel_rfl
      have s2 : Tryd.prog.cellsOf 33 = (tSl tI).size := by kernel_rfl
      have s3 : Tryd.prog.cellsOf 4 = tBool.size := by kernel_rfl
      have s4 : Tryd.prog.cellsOf 3 = tI.size := by kernel_rfl
      have s5 : Tryd.prog.cellsOf 69 = 1 := by kernel_rfl
      obtain ⟨cells, ⟨ca, cc, e0, hc⟩, z0⟩ := opens_slice Tryd.underlying22 s1 (by decide) (opens_set Tryd.underlying70 Tryd.underlying69 s5 s1) _ _ _ _ g0
      obtain ⟨next, ⟨na, nc, e1, hn⟩, z1⟩ := opens_slice Tryd.underlying23 s2 (by decide) (opens_slice Tryd.underlying33 s4 (by decide) (opens_int Tryd.underlying3)) _ _ _ _ g1
      obtain ⟨final, ⟨fa, fc, e2, hf⟩, z2⟩ := opens_slice Tryd.underlying24 s3 (by decide) (opens_bool Tryd.underlying4) _ _ _ _ g2
      cases e0; cases e1; cases e2
      refine ⟨cells, next, final, ⟨ca, na, fa, cc, nc, fc, rfl, hc, hn, hf⟩, ?_⟩
      simp only [List.map_cons, List.map_nil, Rows.uptoBulk, Rows.uptoBulkAll]
      omega

end Go.Proofs.YthomdogheamfpaaDoor
/- Closing: a law that returns true and leaves all that was there as it was. -/
set_option linter.unusedVariables false
namespace Go.VC
open Go.ChangeShapes Go.WideShapes Go.ChangeAt Go.RowKit

theorem kept_of_agr {W W' : World} {may : MemPlace → Prop} (he : Env W W') (h : Agr (Old W.heap) W.heap W'.heap) : W.keptBut W' may := by
  refine ⟨he.os, he.output, fun i hi => ?_⟩
  rw [h i hi]
  split <;> simp_all
theorem frozen_of_agr {W W' : World} (h : Agr (Old W.heap) W.heap W'.heap) (a : Addr) (ha : a.block < W.heap.size) : W'.frozen? a = W.frozen? a := by
  unfold World.frozen?
  rw [h a.block ha]
theorem sameAt_of_agr {W W' : World} (h : Agr (Old W.heap) W.heap W'.heap) : ∀ p : MemPlace, p.block < W.heap.size → W.sameAt W' p
  | .cell b o, hb => by
    show W'.cell? ⟨b, o, none⟩ = W.cell? ⟨b, o, none⟩
    rw [cell_w, cell_w]
    exact cell_eq (h b hb)
  | .map b, hb => h b hb
section
variable {H : Type} {enc : TypeId × Value → H} {P : Program}
theorem all_stay {W W' : World} {sp : Nat → Bool} (hl : laidOutB P = true) (ha : Agr (Old W.heap) W.heap W'.heap) : ∀ {ts : List TypeId} {vs : List Value} {ds : List (DataW H)} {ps : List MemPlace}, (∀ t ∈ ts, P.readableRec t = true ∧ t < P.types.size) →
    DataW.TrodAll enc P W 0 (fun _ => true) true ts vs ds ps → (∀ p ∈ ps, p.block < W.heap.size) → (∀ p ∈ ps, sp p.block = true) → DataW.TrodAll enc P W' 0 sp true ts vs ds ps
  | [], vs, ds, ps, _, h, _, _ => by
    obtain ⟨rfl, rfl, rfl⟩ := trodAll_nil h
    exact trodAll_mk0
  | t :: ts, vs, ds, ps, ht, h, hlt, hsp => by
    obtain ⟨v, vs', d, ds', p, q, rfl, rfl, rfl, h1, h2⟩ := trodAll_cons h
    have ht0 := ht t List.mem_cons_self
    exact trodAll_cons_mk (WideElems.Trod_stays hl ht0.1 ht0.2 h1 (fun x hx => sameAt_of_agr ha x (hlt x (List.mem_append_left _ hx))) fun x hx => hsp x (List.mem_append_left _ hx))
      (all_stay hl ha (fun x hx => ht x (List.mem_cons_of_mem _ hx)) h2 (fun x hx => hlt x (List.mem_append_right _ hx)) fun x hx => hsp x (List.mem_append_right _ hx))
theorem trod_b {w : World} {base : Nat} {sp : Nat → Bool} {hd : Bool} {t : TypeId} {b : Bool} (h : P.underlying t = some .bool) : DataW.Trod enc P w base sp hd t (.bool b) (.lit (.bool b)) [] := ⟨1, by simp [DataW.trod, Value.cells, h]⟩
/-- The law has returned true; what was there is as it was. -/
theorem post_true {f : Func} {s : ChangeSpec} {apart fresh handsOn again : Bool} {W W' : World} {args : Array Value} {ds gs : List (DataW H)} {before : List MemPlace} {bt : TypeId}
    (hW : DataW.Whole enc P f.params.toList s.vars apart W args.toList ds gs before) (hv : s.vars = []) (hfn : (s.fn H (ds ++ gs)).results = [.lit (.bool true)] ∧ (s.fn H (ds ++ gs)).args = ds ∧ (s.fn H (ds ++ gs)).vars = [])
    (hl : laidOutB P = true) (hp : f.params.toList.all (fun t => P.readableRec t && decide (t < P.types.size)) = true) (hr : f.resultTypes = #[bt]) (hu : P.underlying bt = some .bool)
    (he : Env W W') (ha : Agr (Old W.heap) W.heap W'.heap) : s.post enc P f apart fresh handsOn again W args (.bool true) W' := by
  have hlt := hW.lt
  have hW' := hW
  obtain ⟨pa, pv, hA, hV, hbe, hz, hn⟩ := hW
  rw [hv] at hV
  obtain ⟨rfl, rfl⟩ := trodVars_none hV
  rw [List.append_nil] at hbe
  subst hbe
  obtain ⟨hres, hargs, hvars⟩ := hfn
  have hk : W.keptBut W' (fun _ => False) := kept_of_agr he ha
  have hpp : ∀ t ∈ f.params.toList, P.readableRec t = true ∧ t < P.types.size := fun t ht => by
    have := List.all_eq_true.1 hp t ht
    simpa using this
  have hst : ∀ sp : Nat → Bool, (∀ p ∈ before, sp p.block = true) → DataW.TrodAll enc P W' 0 sp true f.params.toList args.toList (s.fn H (ds ++ [])).args before := fun sp hsp => by
    rw [hargs]; exact all_stay hl ha hpp hA hlt hsp
  have hrs : ∀ (b : Nat) (sp : Nat → Bool) (hd : Bool), DataW.TrodAll enc P W' b sp hd f.resultTypes.toList ((Value.bool true).resultList f.resultTypes.size) (s.fn H (ds ++ [])).results [] := fun b sp hd => by
    rw [hres, hr]; exact trodAll_mk1 (trod_b hu)
  have hvs : ∀ sp : Nat → Bool, DataW.TrodVars enc P W' sp s.vars (s.fn H (ds ++ [])).vars [] := fun sp => by
    rw [hvars, hv]; rfl
  have hok : ∀ (j : Nat) (t : TypeId) (r : Value), f.resultTypes[j]? = some t → ((Value.bool true).resultList f.resultTypes.size)[j]? = some r → Value.okWide P W' .any 0 t r := ok_one hr rfl (okWide_bool_mk hu true)
  refine ⟨ds, [], before, [], before, [], hW', hrs _ _ _, hst _ (fun p hp => decide_eq_true (hlt p hp)), hvs _, World.keptBut_mono (fun p hp => hp.elim) hk, fun _ => ?_⟩
  refine ⟨hok, _, _, ([] ++ before) ++ [], ⟨[] ++ before, [], trodAll_append (hst _ (fun _ _ => rfl)) (hrs _ _ _), hvs _, rfl, ?_, ?_⟩, ?_⟩
  · intro b off hp
    simp only [List.nil_append, List.append_nil] at hp
    rw [frozen_of_agr ha _ (hlt _ hp)]
    exact hz b off hp
  · intro hap
    have := hn hap
    simpa using this
  · intro p hp _
    simpa using hp
end

end Go.VC
/- A table that is handed in, small enough. -/
set_option linter.unusedVariables false
set_option maxRecDepth 100000
namespace Go.Proofs.YthomdogheamfpaaDoor
open Go.VC
theorem own_ : ownKnob Tryd.prog.godebug = none := by kernel_rfl
theorem laid_ : laidOutB Tryd.prog = true := by kernel_rfl
theorem tabIn_of {W : World} {v : Value} {cells : List (BitVec 256)} {next : List (List Int)} {final : List Bool} (h : TableV W v cells next final) (hb : szL (fun _ => 1) cells + szL (szL fun _ => 1) next + szL (fun _ => 1) final ≤ 1048576) : TabIn (InW W) W.heap v cells next final := by
  obtain ⟨ca, na, fa, cc, nc, fc, rfl, h1, h2, h3⟩ := h
  have b1 := szL_len (sz := fun _ : BitVec 256 => 1) (fun _ => Nat.le_refl _) cells
  have b2 := szL_len (sz := szL fun _ : Int => 1) (fun x => by have := szL_len (sz := fun _ : Int => 1) (fun _ => Nat.le_refl _) x; omega) next
  have b3 := szL_len (sz := fun _ : Bool => 1) (fun _ => Nat.le_refl _) final
  refine ⟨fun k hk => hk, ⟨ca, na, fa, cc, nc, fc, rfl, h1, h2, h3⟩, by omega, by omega, fun row hrow => ?_, by omega⟩
  have b4 := szL_mem (sz := szL fun _ : Int => 1) hrow
  have b5 := szL_len (sz := fun _ : Int => 1) (fun _ => Nat.le_refl _) row
  omega
theorem small_of {H : Type} {ds : List (DataW H)} (h : Rows.uptoSmall H ds = true) : Rows.uptoBulkAll ds ≤ 1048576 := by simpa [Rows.uptoSmall] using h
end Go.Proofs.YthomdogheamfpaaDoor
