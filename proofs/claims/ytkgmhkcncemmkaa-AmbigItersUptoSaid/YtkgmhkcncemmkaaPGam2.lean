/- The game's ends; rows of spots: the walks. -/
import Derived.Test.YtkgmhkcncemmkaaPGam1
set_option linter.unusedVariables false
set_option linter.unusedSimpArgs false
set_option maxRecDepth 100000
namespace Go.Proofs.Ytkgmhkcncemmkaa
open Go.VC
attribute [local irreducible] mRun gRun atRun
set_option maxHeartbeats 8000000 in
theorem gends_p {S : Nat → Prop} {H : Heap} {v : Value} {it : Bool} {a b : Option AM} {A B : DM} (hS : ∀ k, S k → k < H.size) (hv : GameV S H v it A B) (ho : GameO it a b A B) (n : Nd) (hn : GameR it a b n) :
    Pure Try.prog 87 #[v, ndV n] H (.bool ((gameG it a b).ends n)) := by
  obtain ⟨la, lb, rfl, da, db⟩ := hv
  obtain ⟨⟨aok, an, astep, afin, -⟩, ⟨bok, bn, bstep, bfin, -⟩, hsame, hsa, hsb⟩ := ho
  have afl := aok.fl
  have bfl := bok.fl
  refine FnOk.of_vc Try.func87 rfl (Try.call87 _) ?_
  (conv => whnf); refine vbox (la ++ lb ++ [Value.bool it]) rfl ?_
  intro p1 H1 hp1 hs1 hb1 ha1
  have st1 := (St.nil H).box hp1 hs1 hb1 ha1
  (conv => whnf); refine vbox (ndL n) rfl ?_
  intro p2 H2 hp2 hs2 hb2 ha2
  have st2 := st1.box hp2 hs2 hb2 ha2
  have g2 : GameB S H2 p1 it A B la lb := ⟨st2.blk 0 rfl, da.frame (st2.old.mono hS), db.frame (st2.old.mono hS)⟩
  have q2 := st2.blk 1 rfl
  (conv => whnf); refine fa fl159_0 ?_
  (conv => whnf); refine ld1 ct3 (sdx0 q2) trivial ?_
  by_cases h0 : n.s = 0
  · have d0 : (n.s == 0) = true := by rw [h0]; rfl
    have e : (gameG it a b).ends n = false := by
      unfold gameG
      cases it with
      | true => show (n.s == 1 && _ && _) = false; rw [h0]; rfl
      | false => show catEnds a b n = false; unfold catEnds; rw [h0]; rfl
    rw [e]
    (conv => whnf); rw [d0]
    (conv => whnf)
    exact ⟨rfl, st2.old⟩
  · have d0 : (n.s == 0) = false := beq_eq_false_iff_ne.2 h0
    (conv => whnf); rw [d0]
    (conv => whnf); refine fa fl123_2 ?_
    (conv => whnf); refine g2.ldi trivial ?_
    cases it with
    | true =>
      obtain ⟨hs1', hx, hy⟩ : n.s = 1 ∧ inA a n.x ∧ inA a n.y := by
        rcases (show IterR a n from hn) with ⟨h, -⟩ | h
        · exact absurd h h0
        · exact h
      have e : (gameG true a b).ends n = (finM a n.x && finM a n.y) := by
        show (n.s == 1 && finM a n.x && finM a n.y) = _
        rw [hs1']; rfl
      rw [e]
      (conv => whnf); refine fa fl123_0 ?_
      (conv => whnf); refine fa fl38_3 ?_
      (conv => whnf); refine g2.fa_ trivial fun fa fc hfs => ?_
      (conv => whnf); refine VC.fa fl159_1 ?_
      (conv => whnf); refine ld1 ct3 (sdx1 q2) trivial ?_
      (conv => whnf); refine fin_ix hfs hx.1 (by have := hx.2; omega) fun b8 o8 hS8 hc8 => ?_
      (conv => whnf); refine ld1 ct4 hc8 trivial ?_
      rw [← afin]
      cases hf : finM a n.x with
      | false =>
        (conv => whnf)
        exact ⟨rfl, st2.old⟩
      | true =>
        (conv => whnf); refine VC.fa fl123_0 ?_
        (conv => whnf); refine VC.fa fl38_3 ?_
        (conv => whnf); refine g2.fa_ trivial fun fa' fc' hfs' => ?_
        (conv => whnf); refine VC.fa fl159_2 ?_
        (conv => whnf); refine ld1 ct3 (sdx2 q2) trivial ?_
        (conv => whnf); refine fin_ix hfs' hy.1 (by have := hy.2; omega) fun b9 o9 hS9 hc9 => ?_
        (conv => whnf); refine ld1 ct4 hc9 trivial ?_
        rw [← afin]
        (conv => whnf)
        exact ⟨rfl, st2.old⟩
    | false =>
      have hR : CatR a b n := hn
      (conv => whnf); refine fa fl159_0 ?_
      (conv => whnf); refine ld1 ct3 (sdx0 q2) trivial ?_
      by_cases h1 : n.s = 1
      · have d1 : (n.s == 1) = true := by rw [h1]; rfl
        obtain ⟨hx, hy⟩ : inA b n.x ∧ inA a n.y := by
          rcases hR with ⟨h, -⟩ | ⟨-, h⟩ | ⟨h, -⟩
          · exact absurd h h0
          · exact h
          · omega
        have e : (gameG false a b).ends n = (finM b n.x && finM a n.y && finM b 0) := by
          show catEnds a b n = _
          unfold catEnds
          rw [if_pos h1]
        rw [e]
        (conv => whnf); rw [d1]
        (conv => whnf); refine fa fl123_1 ?_
        (conv => whnf); refine fa fl38_3 ?_
        (conv => whnf); refine g2.fb_ trivial fun fa fc hfs => ?_
        (conv => whnf); refine VC.fa fl159_1 ?_
        (conv => whnf); refine ld1 ct3 (sdx1 q2) trivial ?_
        (conv => whnf); refine fin_ix hfs hx.1 (by have := hx.2; omega) fun b8 o8 hS8 hc8 => ?_
        (conv => whnf); refine ld1 ct4 hc8 trivial ?_
        rw [← bfin]
        cases hf : finM b n.x with
        | false =>
          (conv => whnf)
          exact ⟨rfl, st2.old⟩
        | true =>
          (conv => whnf); refine VC.fa fl123_0 ?_
          (conv => whnf); refine VC.fa fl38_3 ?_
          (conv => whnf); refine g2.fa_ trivial fun fa' fc' hfs' => ?_
          (conv => whnf); refine VC.fa fl159_2 ?_
          (conv => whnf); refine ld1 ct3 (sdx2 q2) trivial ?_
          (conv => whnf); refine fin_ix hfs' hy.1 (by have := hy.2; omega) fun b9 o9 hS9 hc9 => ?_
          (conv => whnf); refine ld1 ct4 hc9 trivial ?_
          rw [← afin]
          cases hf2 : finM a n.y with
          | false =>
            (conv => whnf)
            exact ⟨rfl, st2.old⟩
          | true =>
            (conv => whnf); refine VC.fa fl123_1 ?_
            (conv => whnf); refine VC.fa fl38_3 ?_
            (conv => whnf); refine g2.fb_ trivial fun fa2 fc2 hfs2 => ?_
            (conv => whnf); refine fin_ix (x := 0) hfs2 (Int.le_refl _) (by have := bok.n1; omega) fun b10 o10 hS10 hc10 => ?_
            (conv => whnf); refine ld1 ct4 hc10 trivial ?_
            rw [← bfin]
            (conv => whnf)
            exact ⟨rfl, st2.old⟩
      · have d1 : (n.s == 1) = false := beq_eq_false_iff_ne.2 h1
        obtain ⟨hs2', hx, hy⟩ : n.s = 2 ∧ inA b n.x ∧ inA b n.y := by
          rcases hR with ⟨h, -⟩ | ⟨h, -⟩ | h
          · exact absurd h h0
          · exact absurd h h1
          · exact h
        have e : (gameG false a b).ends n = (finM b n.x && finM b n.y) := by
          show catEnds a b n = _
          unfold catEnds
          rw [if_neg h1, if_pos hs2']
        rw [e]
        (conv => whnf); rw [d1]
        (conv => whnf); refine fa fl123_1 ?_
        (conv => whnf); refine fa fl38_3 ?_
        (conv => whnf); refine g2.fb_ trivial fun fa fc hfs => ?_
        (conv => whnf); refine VC.fa fl159_1 ?_
        (conv => whnf); refine ld1 ct3 (sdx1 q2) trivial ?_
        (conv => whnf); refine fin_ix hfs hx.1 (by have := hx.2; omega) fun b8 o8 hS8 hc8 => ?_
        (conv => whnf); refine ld1 ct4 hc8 trivial ?_
        rw [← bfin]
        cases hf : finM b n.x with
        | false =>
          (conv => whnf)
          exact ⟨rfl, st2.old⟩
        | true =>
          (conv => whnf); refine VC.fa fl123_1 ?_
          (conv => whnf); refine VC.fa fl38_3 ?_
          (conv => whnf); refine g2.fb_ trivial fun fa' fc' hfs' => ?_
          (conv => whnf); refine VC.fa fl159_2 ?_
          (conv => whnf); refine ld1 ct3 (sdx2 q2) trivial ?_
          (conv => whnf); refine fin_ix hfs' hy.1 (by have := hy.2; omega) fun b9 o9 hS9 hc9 => ?_
          (conv => whnf); refine ld1 ct4 hc9 trivial ?_
          rw [← bfin]
          (conv => whnf)
          exact ⟨rfl, st2.old⟩

/-! ### rows -/
/-- Texts in memory. -/
def tW : Ty (List Nat) where
  size := 1
  rep _ _ cs w := cs = [.string (bA w)]
  len h := by rw [h]; rfl
  frame h _ := h
  mono h _ := h
def hashN (n : Nd) : Nat := (n.x.toNat * 37 + n.y.toNat * 3 + n.s.toNat) % 256
/-- The numbers of those whose hash is h. -/
def idxs (F : List NW) (h : Nat) : List Nat := (List.range F.length).filter fun i => decide ((F[i]?.map fun x => hashN x.1) = some h)
theorem idxs_snoc (F : List NW) (x : NW) (h : Nat) : idxs (F ++ [x]) h = if hashN x.1 = h then idxs F h ++ [F.length] else idxs F h := by
  unfold idxs
  rw [List.length_append, List.length_singleton, List.range_succ, List.filter_append]
  have e1 : (List.range F.length).filter (fun i => decide (((F ++ [x])[i]?.map fun x => hashN x.1) = some h)) = (List.range F.length).filter (fun i => decide ((F[i]?.map fun x => hashN x.1) = some h)) := List.filter_congr fun i hi => by
    rw [List.getElem?_append_left (List.mem_range.1 hi)]
  rw [e1]
  have e2 : (F ++ [x])[F.length]? = some x := by simp
  by_cases hh : hashN x.1 = h
  · rw [if_pos hh, List.filter_cons_of_pos (by rw [e2]; simp [hh])]; rfl
  · rw [if_neg hh, List.filter_cons_of_neg (by rw [e2]; simp [hh])]; simp
theorem idxs_mem {F : List NW} {h i : Nat} : i ∈ idxs F h ↔ ∃ x, F[i]? = some x ∧ hashN x.1 = h := by
  unfold idxs
  rw [List.mem_filter, List.mem_range, decide_eq_true_eq]
  constructor
  · rintro ⟨h1, h2⟩
    obtain ⟨x, hx⟩ := get_some h1
    rw [hx] at h2
    exact ⟨x, hx, by simpa using h2⟩
  · rintro ⟨x, hx, rfl⟩
    exact ⟨(List.getElem?_eq_some_iff.1 hx).1, by rw [hx]; rfl⟩
theorem idxs_set {F : List NW} {i : Nat} {n : Nd} {u w : List Nat} (hi : F[i]? = some (n, u)) (h : Nat) : idxs (F.set i (n, w)) h = idxs F h := by
  unfold idxs
  rw [List.length_set]
  refine List.filter_congr fun j hj => ?_
  by_cases hij : i = j
  · subst hij
    rw [List.getElem?_set_self (List.mem_range.1 hj), hi]; rfl
  · rw [List.getElem?_set_ne hij]
/-- What the cells of a row hold. -/
def rowS (F : List NW) : Nat → Slot
  | 0 => slot tNd 159 (F.map (·.1))
  | 1 => slot tW 9 (F.map (·.2))
  | h + 2 => slot tI 3 ((idxs F h).map fun (i : Nat) => (i : Int))
def pRow (b : Nat) (vs : List Value) (F : List NW) : Pc := pF 156 b vs (rowS F)
/-- A row. -/
structure RowP (vs : List Value) (F : List NW) : Prop where
  len : vs.length = 258
  nd : (F.map (·.1)).Nodup
/-- The words of a row have few bytes. -/
def Short (F : List NW) : Prop := ∀ x ∈ F, bytes_ x.2 ∧ x.2.length ≤ 1099511627776
end Go.Proofs.Ytkgmhkcncemmkaa
