/- The pairs of louperef07.First: the walk of add. -/
import Derived.Test.YtpnnedkpbmilkaaPMet1
import Derived.Test.YtpnnedkpbmilkaaPBfsG
import Derived.Test.YtpnnedkpbmilkaaPGam0
import Derived.Test.YtpnnedkpbmilkaaPSpk
set_option linter.unusedVariables false
set_option linter.unusedSimpArgs false
set_option maxRecDepth 100000
namespace Go.Proofs.Ytpnnedkpbmilkaa
open Go.VC
attribute [local irreducible] oneM mRun gRun atRun
/-! ### rows -/
/-- Texts in memory. -/
def tW : Ty (List Nat) where
  size := 1
  rep _ _ cs w := cs = [.string (bA w)]
  len h := by rw [h]; rfl
  frame h _ := h
  mono h _ := h
def hashP (n : Nd) : Nat := (31 * n.x.toNat + n.y.toNat) % 1024
/-- The numbers of those whose hash is h. -/
def idxsP (F : List NW) (h : Nat) : List Nat := (List.range F.length).filter fun i => decide ((F[i]?.map fun x => hashP x.1) = some h)
theorem idxsP_snoc (F : List NW) (x : NW) (h : Nat) : idxsP (F ++ [x]) h = if hashP x.1 = h then idxsP F h ++ [F.length] else idxsP F h := by
  unfold idxsP
  rw [List.length_append, List.length_singleton, List.range_succ, List.filter_append]
  have e1 : (List.range F.length).filter (fun i => decide (((F ++ [x])[i]?.map fun x => hashP x.1) = some h)) = (List.range F.length).filter (fun i => decide ((F[i]?.map fun x => hashP x.1) = some h)) := List.filter_congr fun i hi => by
    rw [List.getElem?_append_left (List.mem_range.1 hi)]
  rw [e1]
  have e2 : (F ++ [x])[F.length]? = some x := by simp
  by_cases hh : hashP x.1 = h
  · rw [if_pos hh, List.filter_cons_of_pos (by rw [e2]; simp [hh])]; rfl
  · rw [if_neg hh, List.filter_cons_of_neg (by rw [e2]; simp [hh])]; simp
theorem idxsP_mem {F : List NW} {h i : Nat} : i ∈ idxsP F h ↔ ∃ x, F[i]? = some x ∧ hashP x.1 = h := by
  unfold idxsP
  rw [List.mem_filter, List.mem_range, decide_eq_true_eq]
  constructor
  · rintro ⟨h1, h2⟩
    obtain ⟨x, hx⟩ := get_some h1
    rw [hx] at h2
    exact ⟨x, hx, by simpa using h2⟩
  · rintro ⟨x, hx, rfl⟩
    exact ⟨(List.getElem?_eq_some_iff.1 hx).1, by rw [hx]; rfl⟩
theorem idxsP_set {F : List NW} {i : Nat} {n : Nd} {u w : List Nat} (hi : F[i]? = some (n, u)) (h : Nat) : idxsP (F.set i (n, w)) h = idxsP F h := by
  unfold idxsP
  rw [List.length_set]
  refine List.filter_congr fun j hj => ?_
  by_cases hij : i = j
  · subst hij
    rw [List.getElem?_set_self (List.mem_range.1 hj), hi]; rfl
  · rw [List.getElem?_set_ne hij]
/-- Pairs of states in memory. -/
def tPr : Ty Nd where
  size := 2
  rep _ _ cs n := n.s = 0 ∧ cs = [.int .i64 n.x, .int .i64 n.y]
  len h := by rw [h.2]; rfl
  frame h _ := h
  mono h _ := h
def prL (n : Nd) : List Value := [.int .i64 n.x, .int .i64 n.y]
/-- What the cells of pairs hold. -/
def prS (F : List NW) : Nat → Slot
  | 0 => slot tPr 141 (F.map (·.1))
  | 1 => slot tW 9 (F.map (·.2))
  | h + 2 => slot tI 3 ((idxsP F h).map fun (i : Nat) => (i : Int))
def pPrs (b : Nat) (vs : List Value) (F : List NW) : Pc := pF 139 b vs (prS F)
structure PrsP (vs : List Value) (F : List NW) : Prop where
  len : vs.length = 1026
  nd : (F.map (·.1)).Nodup
theorem prs_add (F : List NW) (n : Nd) (w : List Nat) : updS (updS (updS (prS F) (hashP n + 2) (slot tI 3 ((idxsP F (hashP n)).map (fun (i : Nat) => (i : Int)) ++ [(F.length : Int)]))) 0 (slot tPr 141 (F.map (·.1) ++ [n]))) 1 (slot tW 9 (F.map (·.2) ++ [w])) = prS (F ++ [(n, w)]) := by
  funext j
  match j with
  | 0 =>
    rw [updS_ne (by decide), updS_self]
    show slot _ _ _ = slot _ _ _
    rw [List.map_append]; rfl
  | 1 =>
    rw [updS_self]
    show slot _ _ _ = slot _ _ _
    rw [List.map_append]; rfl
  | h + 2 =>
    rw [updS_ne (by omega), updS_ne (by omega)]
    by_cases hh : h + 2 = hashP n + 2
    · rw [hh, updS_self]
      obtain rfl : h = hashP n := by omega
      show slot _ _ _ = slot _ _ _
      rw [idxsP_snoc, if_pos rfl, List.map_append]; rfl
    · rw [updS_ne hh]
      show slot _ _ _ = slot _ _ _
      rw [idxsP_snoc, if_neg (by simp only; omega)]
theorem hashP_lt (n : Nd) : hashP n < 1024 := Nat.mod_lt _ (by decide)
/-- A pair, with the word w, is put into F, if it is new. -/
def Add (F : List NW) (n : Nd) (w : List Nat) (F' : List NW) : Prop := ((∃ y ∈ F, y.1 = n) ∧ F' = F) ∨ ((∀ y ∈ F, y.1 ≠ n) ∧ F' = F ++ [(n, w)])
theorem eqb {x y : Int} : (x == y) = decide (x = y) := by
  by_cases h : x = y
  · subst h; simp
  · rw [decide_eq_false h]; exact beq_eq_false_iff_ne.2 h
set_option maxHeartbeats 16000000 in
theorem add_c {H : Heap} {b : Nat} {vs : List Value} {F : List NW} {n : Nd} {w : List Nat} {B : Nat → Prop} (st : StB B H H [pPrs b vs F]) (hr : PrsP vs F) (h0 : n.s = 0) (hx0 : 0 ≤ n.x) (hx1 : n.x < 65536) (hy0 : 0 ≤ n.y) (hy1 : n.y < 65536) (hF : ∀ x ∈ F, x.1.s = 0) (hlen : F.length + 1 ≤ 5864062014805) :
    FnOk Try.prog 88 #[.pointer (some ⟨b, 0, none⟩), .int .i64 n.x, .int .i64 n.y, .string (bA w)] H fun v H' => ∃ vs' F', v = .tuple #[] ∧ StB B H H' [pPrs b vs' F'] ∧ PrsP vs' F' ∧ Add F n w F' := by
  obtain ⟨hvl, hnd⟩ := hr
  have hh := hashP_lt n
  refine FnOk.of_vc Try.func88 rfl (Try.call88 _) ?_
  (conv => whnf); rw [w64 (x := 31 * n.x) (by omega) (by omega)]
  (conv => whnf); rw [w64 (x := 31 * n.x + n.y) (by omega) (by omega)]
  rw [show 31 * n.x + n.y = ((31 * n.x.toNat + n.y.toNat : Nat) : Int) by omega]
  (conv => whnf); refine vrem (b := 1024) (by decide) ?_
  rw [show (31 * n.x.toNat + n.y.toNat) % 1024 = hashP n from rfl]
  obtain ⟨vh, hvh⟩ := get_some (l := vs) (k := hashP n + 2) (by omega)
  obtain ⟨v0, hv0⟩ := get_some (l := vs) (k := 0) (by omega)
  obtain ⟨v1, hv1⟩ := get_some (l := vs) (k := 1) (by omega)
  have hcell : ∀ {H' : Heap} {ps : List Pc} (st : StB B H H' ps), ps[0]? = some (pPrs b vs F) → ∀ (j : Nat) (v : Value), vs[j]? = some v → VC.cell H' b (0 + j) = some v := by
    intro H' ps st hp j v hv
    have hbk : Blk H' b 139 vs := st.fblk 0 hp
    rw [hbk.cell, Nat.zero_add]; exact hv
  obtain ⟨ah, ch, rfl, -⟩ := st.fview 0 rfl hvh (xs := (idxsP F (hashP n)).map fun (i : Nat) => (i : Int)) (T := tI) (e := 3) rfl
  rw [List.length_map] at hvh
  have hmaxi : (idxsP F (hashP n)).length ≤ F.length := by
    unfold idxsP
    exact Nat.le_trans (List.length_filter_le _ _) (by simp)
  have hibS : ∀ (H2 : Heap) (S0 : Nat → Prop) (K : Value → Prop), K (.pointer (some ⟨b, 0 + 2 + hashP n, none⟩)) → VDet Try.prog (Instr.indexAt 137 (.pointer (some ⟨b, 0 + 2, none⟩)) (.int .i64 (hashP n : Int))) S0 H2 K := fun H2 S0 K hK => by
    refine ixa ar137 (by omega) (by omega) ?_
    rw [show 0 + 2 + ((hashP n : Nat) : Int).toNat * 1 = 0 + 2 + hashP n by omega]
    exact hK
  have hlbS : ∀ {H2 : Heap} {ps : List Pc} (S0 : Nat → Prop) (st2 : StB B H H2 ps), ps[0]? = some (pPrs b vs F) → S0 b → ∀ (K : Value → Prop), K (.slice ah (idxsP F (hashP n)).length ch) → VDet Try.prog (Instr.loadAt 35 (.pointer (some ⟨b, 0 + 2 + hashP n, none⟩))) S0 H2 K := fun S0 st2 hp hS0 K hK => by
    refine ld1 ct35 ?_ hS0 hK
    rw [show 0 + 2 + hashP n = 0 + (hashP n + 2) by omega]
    exact hcell st2 hp _ _ hvh
  (conv => whnf)
  refine VLoop.mk [9] (fun k : Nat => [.int .i64 (k : Int)]) (fun k H2 => k ≤ (idxsP F (hashP n)).length ∧ (∀ i ∈ (idxsP F (hashP n)).take k, ∀ x, F[i]? = some x → x.1 ≠ n) ∧ StB B H H2 [pPrs b vs F]) (fun k _ => (idxsP F (hashP n)).length - k) ?_ ?_
  · (conv => whnf)
    exact ⟨0, rfl, Nat.zero_le _, by simp, st⟩
  · rintro k H2 junk2 ⟨hk, hno, st2⟩
    have hc2 := hcell st2 rfl
    have hbb := (st2.in_ 0 rfl (.inl rfl) : _ ∧ b < H2.size).2
    (conv => whnf); refine fa fl139_2 ?_
    (conv => whnf); refine hibS _ _ _ ?_
    (conv => whnf); refine hlbS _ st2 rfl trivial _ ?_
    (conv => whnf); refine VIte.mk (fun hz => ?_) (fun hz => ?_) <;> simp only [decide_eq_true_eq, decide_eq_false_iff_not] at hz
    · obtain ⟨i, hi⟩ := get_some (l := idxsP F (hashP n)) (k := k) (by omega)
      obtain ⟨x, hx, hxh⟩ := idxsP_mem.1 (List.mem_of_getElem? hi)
      obtain ⟨x1, u⟩ := x
      have hxF := hF _ (List.mem_of_getElem? hx)
      have hil := (List.getElem?_eq_some_iff.1 hx).1
      obtain ⟨ah', ch', e1, hvi⟩ := st2.fview 0 rfl hvh (xs := (idxsP F (hashP n)).map fun (i : Nat) => (i : Int)) (T := tI) (e := 3) rfl
      injection e1 with e2 e3 e4
      subst e2; subst e4
      obtain ⟨a0, c0, e0, hvs⟩ := st2.fview 0 rfl hv0 (xs := F.map (·.1)) (T := tPr) (e := 141) rfl
      rw [List.length_map] at e0
      subst e0
      (conv => whnf); refine VDraw.held (Old H2) 16 (sq [0,1,2,3,4,5,6,7,8,9,10,11,12,13,14] (.f 15 (.f 16 .e))) rfl (by kernel_rfl) ?_
      (conv => whnf); refine fa fl139_0 ?_
      (conv => whnf); refine ld1 ct135 (hc2 _ _ hv0) hbb ?_
      (conv => whnf); refine fa fl139_2 ?_
      (conv => whnf); refine hibS _ _ _ ?_
      (conv => whnf); refine hlbS _ st2 rfl hbb _ ?_
      (conv => whnf); refine ixrn (i := k) (x := (i : Int)) sl35 hvi (by simp) (by rw [List.getElem?_map, hi]; rfl) rfl ?_
      rintro b3 o3 cs3 hS3 hc3 ⟨rfl, -⟩
      (conv => whnf); refine ld1 ct3 hc3.one hS3 ?_
      (conv => whnf); refine ixrn (i := i) (x := x1) sl135 hvs (by simp) (by rw [List.getElem?_map, hx]; rfl) rfl ?_
      rintro b4 o4 cs4 hS4 hc4 ⟨-, rfl⟩
      (conv => whnf); refine ldN (cs := prL x1) ag141 hc4 hS4 ?_
      (conv => whnf); refine valloc (.agg #[.int .i64 0, .int .i64 0]) [.int .i64 0, .int .i64 0] rfl rfl ?_
      intro p5 H5 hp5 hs5 hb5 ha5
      have st5 := st2.box hp5 hs5 hb5 ha5
      refine ⟨ha5.mono fun k hk => by unfold Old at hk; omega, ?_⟩
      (conv => whnf); refine stNB (cs := prL x1) st5 1 rfl rfl (show 0 + 2 ≤ 2 by decide) rfl fun H6 st6 => ?_
      rw [show splice [Value.int .i64 0, Value.int .i64 0] 0 (prL x1) = prL x1 from rfl] at st6
      have q6 := st6.blk 1 rfl
      (conv => whnf); refine ixa ar141 (by decide) (by decide) ?_
      (conv => whnf); refine ld1 (v := .int .i64 x1.x) ct3 (by rw [q6.cell]; rfl) trivial ?_
      have hne : x1 ≠ n → ∀ i' ∈ (idxsP F (hashP n)).take (k + 1), ∀ x', F[i']? = some x' → x'.1 ≠ n := fun he i' hi' x' hx' => by
        rw [take_succ_snoc hi, List.mem_append, List.mem_singleton] at hi'
        rcases hi' with hi' | rfl
        · exact hno i' hi' x' hx'
        · rw [hx] at hx'
          cases hx'
          exact he
      by_cases hex : x1.x = n.x
      · have d1 : (x1.x == n.x) = true := by rw [hex]; simp
        (conv => whnf); rw [d1]
        (conv => whnf); refine ixa ar141 (by decide) (by decide) ?_
        (conv => whnf); refine ld1 (v := .int .i64 x1.y) ct3 (by rw [q6.cell]; rfl) trivial ?_
        by_cases hey : x1.y = n.y
        · have d2 : (x1.y == n.y) = true := by rw [hey]; simp
          (conv => whnf); rw [d2]
          (conv => whnf)
          refine ⟨vs, F, rfl, st6.pick [0] (by decide), ⟨hvl, hnd⟩, .inl ⟨⟨_, List.mem_of_getElem? hx, ?_⟩, rfl⟩⟩
          obtain ⟨s1, y1, z1⟩ := x1
          obtain ⟨s2, y2, z2⟩ := n
          simp only at hxF h0 hex hey
          subst hxF; subst h0; subst hex; subst hey; rfl
        · have d2 : (x1.y == n.y) = false := beq_eq_false_iff_ne.2 hey
          (conv => whnf); rw [d2]
          (conv => whnf); rw [w64 (x := (k : Int) + 1) (by omega) (by omega)]
          exact ⟨rfl, k + 1, rfl, ⟨by omega, hne fun e => hey (by rw [e]), st6.pick [0] (by decide)⟩, by omega⟩
      · have d1 : (x1.x == n.x) = false := beq_eq_false_iff_ne.2 hex
        (conv => whnf); rw [d1]
        (conv => whnf); rw [w64 (x := (k : Int) + 1) (by omega) (by omega)]
        exact ⟨rfl, k + 1, rfl, ⟨by omega, hne fun e => hex (by rw [e]), st6.pick [0] (by decide)⟩, by omega⟩
    · obtain rfl : k = (idxsP F (hashP n)).length := by omega
      rw [List.take_length] at hno
      have hnew : ∀ x ∈ F, x.1 ≠ n := fun x hx e => by
        obtain ⟨i, hi⟩ := List.getElem?_of_mem hx
        exact hno i (idxsP_mem.2 ⟨x, hi, by rw [e]⟩) x hi e
      obtain ⟨a0, c0, e0, -⟩ := st2.fview 0 rfl hv0 (xs := F.map (·.1)) (T := tPr) (e := 141) rfl
      obtain ⟨a1, c1, e5, -⟩ := st2.fview 0 rfl hv1 (xs := F.map (·.2)) (T := tW) (e := 9) rfl
      rw [List.length_map] at e0 e5
      subst e0; subst e5
      have hself : ∀ (j : Nat) (v : Value), vs[j]? = some v → ¬ slB v b := (st2.at_ 0 rfl).2.2.2
      (conv => whnf); refine VDraw.heldZ (fun k => k < H2.size ∧ ¬ slB (.slice ah (idxsP F (hashP n)).length ch) k) [18] (sq [0,1,2,3,4,5,6,7,8,9,10,11,12,15,16] (.f 13 (.f 14 (sq [17] (.f 18 .e))))) rfl (by kernel_rfl) ?_
      (conv => whnf); refine fa fl139_2 ?_
      (conv => whnf); refine hibS _ _ _ ?_
      (conv => whnf); refine hlbS _ st2 rfl ⟨hbb, hself _ _ hvh⟩ _ ?_
      (conv => whnf); refine fa fl139_0 ?_
      (conv => whnf); refine ld1 ct135 (hc2 _ _ hv0) ⟨hbb, hself _ _ hvh⟩ ?_
      (conv => whnf); refine fa fl139_2 ?_
      (conv => whnf); refine vbuild1 sl35 [.int .i64 (F.length : Int)] rfl rfl (by decide) (by decide) ?_
      intro q3 H3 hq3 hs3 hb3 ha3
      have st3 := st2.skip hq3 ha3
      refine ⟨ha3.mono fun k hk => by have := hk.1; omega, ?_⟩
      (conv => whnf); refine appF (ys := [(F.length : Int)]) (ds := [.int .i64 (F.length : Int)]) st3 0 sl35 rfl hvh (xs := (idxsP F (hashP n)).map fun (i : Nat) => (i : Int)) (T := tI) (e := 3) rfl (hb3.cells fun j v hv => by rw [Nat.zero_add]; exact hv) (Ty.reps_one ⟨rfl, inI64 (by omega)⟩) rfl (by simp [Value.oneCell']) (by simp only [List.length_map, List.length_singleton, maxLen]; omega) (by simp only [List.length_map, List.length_singleton]; omega) fun v4 H4 st4 ha4 h14 => ?_
      refine ⟨(ha3.mono fun k hk => by have := hk.1; omega).trans (ha4.mono fun k hk => ⟨by have := hk.1; omega, hk.2⟩), ?_⟩
      (conv => whnf); refine ixa ar137 (by omega) (by omega) ?_
      (conv => whnf); refine stF (o := 0 + 2 + ((hashP n : Nat) : Int).toNat * 1) (j := hashP n + 2) st4 0 ct35 rfl (by omega) h14 fun H5 st5 => ?_
      have hw0 : (vs.set (hashP n + 2) v4)[0]? = some (.slice a0 F.length c0) := by rw [List.getElem?_set_ne (by omega)]; exact hv0
      have hw1 : (vs.set (hashP n + 2) v4)[1]? = some (.slice a1 F.length c1) := by rw [List.getElem?_set_ne (by omega)]; exact hv1
      have hwl : (vs.set (hashP n + 2) v4).length = 1026 := by rw [List.length_set]; exact hvl
      generalize vs.set (hashP n + 2) v4 = ws at *
      have hk5 : Blk H5 b 139 ws := st5.fblk 0 rfl
      (conv => whnf); refine fa fl139_0 ?_
      (conv => whnf); refine ld1 (v := .slice a0 F.length c0) ct135 (by rw [hk5.cell]; exact hw0) trivial ?_
      (conv => whnf); refine vbuildA ar141 (.agg #[.int .i64 0, .int .i64 0]) rfl (prL n) rfl ?_
      (conv => whnf); refine vbuild1 sl135 (prL n) rfl rfl (by decide) (by decide) ?_
      intro q6 H6 hq6 hs6 hb6 ha6
      have st6 := st5.skip hq6 ha6
      (conv => whnf); refine appF (ys := [n]) (ds := prL n) st6 0 sl135 rfl hw0 (xs := F.map (·.1)) (T := tPr) (e := 141) (by rw [updS_ne (by omega)]; rfl) (hb6.cells fun j v hv => by rw [Nat.zero_add]; exact hv) (Ty.reps_one ⟨h0, rfl⟩) rfl (by simp [prL, Value.oneCell']) (by simp only [List.length_map, List.length_singleton, maxLen]; omega) (by simp only [List.length_map, List.length_singleton]; omega) fun v7 H7 st7 ha7 h17 => ?_
      (conv => whnf); refine fa fl139_0 ?_
      (conv => whnf); refine stF (o := 0 + 0) (j := 0) st7 0 ct135 rfl rfl h17 fun H8 st8 => ?_
      have hx1' : (ws.set 0 v7)[1]? = some (.slice a1 F.length c1) := by rw [List.getElem?_set_ne (by omega)]; exact hw1
      have hxl : (ws.set 0 v7).length = 1026 := by rw [List.length_set]; exact hwl
      generalize ws.set 0 v7 = xs8 at *
      have hk8 : Blk H8 b 139 xs8 := st8.fblk 0 rfl
      (conv => whnf); refine fa fl139_1 ?_
      (conv => whnf); refine ld1 (v := .slice a1 F.length c1) ct136 (by rw [hk8.cell]; exact hx1') trivial ?_
      (conv => whnf); refine vbuild1 sl136 [.string (bA w)] rfl rfl (by decide) (by decide) ?_
      intro q9 H9 hq9 hs9 hb9 ha9
      have st9 := st8.skip hq9 ha9
      (conv => whnf); refine appF (ys := [w]) (ds := [.string (bA w)]) st9 0 sl136 rfl hx1' (xs := F.map (·.2)) (T := tW) (e := 9) (by rw [updS_ne (by omega), updS_ne (by omega)]; rfl) (hb9.cells fun j v hv => by rw [Nat.zero_add]; exact hv) (Ty.reps_one rfl) rfl (by simp [Value.oneCell']) (by simp only [List.length_map, List.length_singleton, maxLen]; omega) (by simp only [List.length_map, List.length_singleton]; omega) fun v10 H10 st10 ha10 h110 => ?_
      (conv => whnf); refine fa fl139_1 ?_
      (conv => whnf); refine stF (o := 0 + 1) (j := 1) st10 0 ct136 rfl rfl h110 fun H11 st11 => ?_
      (conv => whnf)
      refine ⟨xs8.set 1 v10, F ++ [(n, w)], rfl, ?_, ⟨by rw [List.length_set]; exact hxl, ?_⟩, .inr ⟨hnew, rfl⟩⟩
      · have := st11.pick [0] (by decide)
        unfold pPrs
        rw [← prs_add]
        exact this
      · rw [List.map_append]
        refine List.nodup_append.2 ⟨hnd, by simp, fun x hx y hy => ?_⟩
        simp only [List.map_cons, List.map_nil, List.mem_singleton] at hy
        subst hy
        obtain ⟨z, hz, rfl⟩ := List.mem_map.1 hx
        exact hnew z hz
end Go.Proofs.Ytpnnedkpbmilkaa
