/- Parts of the proof: PMb6, PMb7, PPa9, PPa10, PPa11, PPErr, PBlE, PLrg, PBuE, PNBu, PNMe, PPow4, VOpen, POpenS, VTop, PNetIn -/
import Derived.Test.YtlnmhfhdjnenoaaGreatDoorKNr6
import Derived.Test.YtlnmhfhdjnenoaaGreatDoorKNr5
import Derived.Test.YtlnmhfhdjnenoaaGreatDoorKNr3
import Derived.Test.YtlnmhfhdjnenoaaGreatDoorRows
import Derived.OpenShut
import Derived.ChangeSame
import Derived.Deep.DeepHandedRow
import Derived.ProofKit
import Derived.Test.YtlnmhfhdjnenoaaGreatDoorKNr1
import Derived.JoinedCond
import Derived.WideKeyArgs
import Derived.Test.YtlnmhfhdjnenoaaGreatDoorKNr2
/- louperef03: From, Member: the walks. (printed by mkmb6.py) -/
set_option linter.unusedVariables false
set_option linter.unusedSimpArgs false
set_option maxRecDepth 100000
namespace Go.Proofs.YtlnmhfhdjnenoaaGreatDoor
open Go.VC Go.Lib
theorem sneq {P : Program} {t e : TypeId} {x y : Operand} {a : Option Addr} {n m : Nat} {S : Nat → Prop} {H : Heap} {K : Value → Prop} (h : P.underlying t = some (.slice e)) (k : K (.bool (!a.isNone))) : VDet P (do eqGuard .neq t x y (.slice a n m) (.slice none 0 0); binOp .neq t (.slice a n m) (.slice none 0 0)) S H K := by
  refine VDet.mk _ (fun w _ => ?_) k
  have hz : ∀ d : Nat, (Op.equalIn (d + 1) t (.slice a n m) (.slice none 0 0)).run P w = .ok a.isNone w := fun d => by
    cases a <;> simp [Op.equalIn, run_underlying h]
  have : (Op.equal t (.slice a n m) (.slice none 0 0)).run P w = .ok a.isNone w := hz 9999
  simp [eqGuard, binOp, this]
theorem bool_reps3 {S : Nat → Prop} {H : Heap} : ∀ xs : List Bool, tBool.reps S H (xs.map Value.bool) xs
  | [] => rfl
  | x :: xs => ⟨[.bool x], xs.map Value.bool, rfl, rfl, bool_reps3 xs⟩
theorem lg2 {α : Type} (a : α) (ps : List α) (b c : α) : (a :: ps ++ [b] ++ [c])[ps.length + 2]? = some c := by
  rw [show ps.length + 2 = (a :: ps ++ [b]).length by simp]; exact lgR0 _ _
theorem ls2 {α : Type} (a : α) (ps : List α) (b c d : α) : (a :: ps ++ [b] ++ [c]).set (ps.length + 2) d = a :: (ps ++ [b, d]) := by
  rw [show ps.length + 2 = (a :: ps ++ [b]).length by simp, lsR0]; simp
def MGrow (m m' : Nat → Nat → Option Nat) : Prop := ∀ a b c, m a b = some c → m' a b = some c
theorem MGrow.refl (m : Nat → Nat → Option Nat) : MGrow m m := fun _ _ _ h => h
theorem MGrow.trans {m m1 m2 : Nat → Nat → Option Nat} (h : MGrow m m1) (g : MGrow m1 m2) : MGrow m m2 := fun a b c k => g a b c (h a b c k)
theorem MGrow.put {m m1 : Nat → Nat → Option Nat} {j i rb : Nat} (h : MGrow m m1) (hm : m j i = none) : MGrow m (putM m1 j i rb) := fun a b c k => by
  unfold putM
  split
  · rename_i e; rw [e.1, e.2, hm] at k; cases k
  · exact h a b c k
def FromAns (B : Nat → Prop) (H0 : Heap) (mb : Nat) (nbs : List Nat) (L : Nat) (R : Nat → Nat → List Bool) (m : Nat → Nat → Option Nat) (ps : List Pc) (j i : Nat) (v : Value) (H' : Heap) : Prop :=
  ∃ m' rb, v = rowV rb L ∧ m' j i = some rb ∧ MGrow m m' ∧ StB B H0 H' (pMemo mb nbs L m' R :: ps)
theorem TreeAt.node {ns : List RnM} {r : ReM} {j : Nat} (h : TreeAt ns r j) : ∃ d, ns[j]? = some d ∧ d.op = opOf r := by
  cases r with
  | eps => obtain ⟨d, h1, h2⟩ := h; exact ⟨d, h1, h2⟩
  | cls s => obtain ⟨d, h1, h2, -⟩ := h; exact ⟨d, h1, h2⟩
  | star a => obtain ⟨d, k, h1, h2, -⟩ := h; exact ⟨d, h1, h2⟩
  | _ a b => obtain ⟨d, k, k2, h1, h2, -⟩ := h; exact ⟨d, h1, h2⟩
/-- The pieces while From works at a node. -/
def frP (mb : Nat) (nbs : List Nat) (L : Nat) (m : Nat → Nat → Option Nat) (R : Nat → Nat → List Bool) (ps : List Pc) (ob : Nat) (xs : List Bool) (x : Nat) (d : RnM) : List Pc :=
  pMemo mb nbs L m R :: (ps ++ [pS tBool 4 (some ⟨ob, 0, none⟩) (L + 1) (L + 1) xs, pB 94 x (rnL d)])
section
variable {mb L ob x : Nat} {nbs : List Nat} {m : Nat → Nat → Option Nat} {R : Nat → Nat → List Bool} {ps : List Pc} {xs : List Bool} {d : RnM}
theorem fr_out : (frP mb nbs L m R ps ob xs x d)[ps.length + 1]? = some (pS tBool 4 (some ⟨ob, 0, none⟩) (L + 1) (L + 1) xs) := lgR ps [pS tBool 4 (some ⟨ob, 0, none⟩) (L + 1) (L + 1) xs, pB 94 x (rnL d)] 0
theorem fr_nd : (frP mb nbs L m R ps ob xs x d)[ps.length + 2]? = some (pB 94 x (rnL d)) := lgR ps [pS tBool 4 (some ⟨ob, 0, none⟩) (L + 1) (L + 1) xs, pB 94 x (rnL d)] 1
theorem fr_set (ys : List Bool) : (frP mb nbs L m R ps ob xs x d).set (ps.length + 1) (pS tBool 4 (some ⟨ob, 0, none⟩) (L + 1) (L + 1) ys) = frP mb nbs L m R ps ob ys x d := congrArg (pMemo mb nbs L m R :: ·) (lsR ps [pS tBool 4 (some ⟨ob, 0, none⟩) (L + 1) (L + 1) xs, pB 94 x (rnL d)] 0 _)
theorem fr_old {kt : Nat} {p : Pc} (h : ps[kt]? = some p) : (frP mb nbs L m R ps ob xs x d)[kt + 1]? = some p := lgL h
/-- One place of the row is set. -/
theorem fr_put {B : Nat → Prop} {H0 H : Heap} {q : Nat} {b : Bool} {K : Heap → Prop} (st : StB B H0 H (frP mb nbs L m R ps ob xs x d)) (hq : q < xs.length) (k : ∀ G, StB B H0 G (frP mb nbs L m R ps ob (xs.set q b) x d) → K G) :
    VEffU Tryz.prog (Instr.storeAt 4 (.pointer (some ⟨ob, q * tBool.size, none⟩)) (.bool b)) H K :=
  st1O (T := tBool) (j := q) (x := b) st (ps.length + 1) ct4 fr_out rfl (Nat.mul_one _) hq rfl (fun _ _ => rfl) fun G st' => k G (by rw [fr_set] at st'; exact st')
end
set_option maxHeartbeats 8000000 in
theorem from_c {B : Nat → Prop} {H0 : Heap} {ns : List RnM} {na : Option Addr} {nc : Nat} {root : Int} {s : ByteArray} {tb mb kt : Nat} {nbs : List Nat} (hD : SlD tRn B H0 na nc ns) (hnl : nbs.length = ns.length) (hN : ns.length ≤ 4194304) (hs : s.size ≤ 4194303) :
    ∀ (k : Nat) (r : ReM), r.nodes < k → ∀ {H : Heap} {m : Nat → Nat → Option Nat} {ps : List Pc} {j i : Nat}, StB B H0 H (pMemo mb nbs s.size m (rowR ns (byN s)) :: ps) →
      ps[kt]? = some (pB 158 tb (tbL na ns.length nc root s (.slice (some ⟨mb, 0, none⟩) ns.length ns.length))) → TreeAt ns r j → i ≤ s.size →
      FnOk Tryz.prog 43 #[.pointer (some ⟨tb, 0, none⟩), .int .i64 (j : Int), .int .i64 (i : Int)] H (FromAns B H0 mb nbs s.size (rowR ns (byN s)) m ps j i) := by
  intro k
  induction k with
  | zero => intro r h; omega
  | succ k IH =>
  intro r hr H m ps j i st hkt ht hi
  obtain ⟨d, hd, hop⟩ := ht.node
  have hjn := (List.getElem?_eq_some_iff.1 hd).1
  obtain ⟨nb, hnb⟩ : ∃ nb, nbs[j]? = some nb := ⟨_, List.getElem?_eq_getElem (by omega)⟩
  have hok : MemoOk mb nbs s.size m (rowR ns (byN s)) H := st.at_ 0 rfl
  have hrow := hok.rows j nb hnb
  have hbl := byN_len s
  refine FnOk.of_vc Tryz.func43 rfl (Tryz.call43 _) ?_
  (conv => whnf); refine VC.fa fl158_2 ?_
  (conv => whnf); refine ld1 (v := .slice (some ⟨mb, 0, none⟩) ns.length ns.length) ct156 (by rw [(st.blk (kt + 1) hkt).cell]; rfl) trivial ?_
  (conv => whnf); refine VC.ix sl156 (by omega) (by omega) ?_
  (conv => whnf); refine ld1 (v := rowV nb s.size) ct159 (by rw [hok.top.cell, Int.toNat_natCast, Nat.mul_one, Nat.zero_add, List.getElem?_map, hnb]; rfl) trivial ?_
  (conv => whnf); refine VC.ix sl159 (by omega) (by omega) ?_
  (conv => whnf); refine ld1 ct111 (by rw [hrow.cell, Int.toNat_natCast, Nat.mul_one, Nat.zero_add]; exact memC_get hi) trivial ?_
  cases hm : m j i with
  | some rb =>
    (conv => whnf); refine sneq Tryz.underlying111 ?_
    (conv => whnf); refine VC.fa fl158_2 ?_
    (conv => whnf); refine ld1 (v := .slice (some ⟨mb, 0, none⟩) ns.length ns.length) ct156 (by rw [(st.blk (kt + 1) hkt).cell]; rfl) trivial ?_
    (conv => whnf); refine VC.ix sl156 (by omega) (by omega) ?_
    (conv => whnf); refine ld1 (v := rowV nb s.size) ct159 (by rw [hok.top.cell, Int.toNat_natCast, Nat.mul_one, Nat.zero_add, List.getElem?_map, hnb]; rfl) trivial ?_
    (conv => whnf); refine VC.ix sl159 (by omega) (by omega) ?_
    (conv => whnf); refine ld1 (v := rowV rb s.size) ct111 (by rw [hrow.cell, Int.toNat_natCast, Nat.mul_one, Nat.zero_add]; refine (memC_get hi).trans ?_; rw [hm]) trivial ?_
    (conv => whnf)
    exact ⟨m, rb, rfl, hm, .refl m, st⟩
  | none =>
    (conv => whnf); refine sneq Tryz.underlying111 ?_
    (conv => whnf); refine VC.fa fl158_1 ?_
    (conv => whnf); refine ld1 (v := .string s) ct9 (by rw [(st.blk (kt + 1) hkt).cell]; rfl) trivial ?_
    (conv => whnf); rw [w64 (x := (s.size : Int) + 1) (by omega) (by omega)]
    (conv => whnf); refine vmake1 sl111 rfl (by omega) (by omega) (by omega) (by omega) ?_
    intro ob H1 hq1 hs1 hb1 ha1
    rw [show ((s.size : Int) + 1).toNat = s.size + 1 by omega] at hb1 ⊢
    have hreps : tBool.reps none_ H1 (List.replicate (s.size + 1) (Value.bool false)) (List.replicate (s.size + 1) false) := by
      have := bool_reps3 (S := none_) (H := H1) (List.replicate (s.size + 1) false)
      rwa [List.map_replicate] at this
    have st1 := st.new (T := tBool) (n := s.size + 1) (xs := List.replicate (s.size + 1) false) hq1 hs1 hb1 ha1 hreps (by simp) (by unfold maxLen; omega)
    have hkt1 : (pMemo mb nbs s.size m (rowR ns (byN s)) :: ps ++ [pS tBool 4 (some ⟨ob, 0, none⟩) (s.size + 1) (s.size + 1) (List.replicate (s.size + 1) false)])[kt + 1]? = some (pB 158 tb (tbL na ns.length nc root s (.slice (some ⟨mb, 0, none⟩) ns.length ns.length))) := lgL hkt
    (conv => whnf); refine VC.fa fl158_0 ?_
    (conv => whnf); refine VC.fa fl32_0 ?_
    (conv => whnf); refine ld1 (v := .slice na ns.length nc) ct30 (by rw [(st1.blk (kt + 1) hkt1).cell]; rfl) trivial ?_
    (conv => whnf); refine ixr (i := j) sl30 (hD.frame st1.old) hd rfl ?_
    rintro b2 o2 c2 hS2 hc2 ⟨rfl, hokd⟩
    (conv => whnf); refine ldN (cs := rnL d) (by rw [rnL_len]; exact ag94) hc2 trivial ?_
    (conv => whnf); refine valloc _ rnZ rn_z rfl ?_
    intro x H2 hq2 hs2 hb2 ha2
    have st2 := st1.box hq2 hs2 hb2 ha2
    (conv => whnf); refine stNB (cs := rnL d) (l := rnZ) st2 (ps.length + 2) (by rw [rnL_len]; rfl) (lg2 _ ps _ _) (by rw [rnL_len, rnZ_len]; decide) (rn_ones d) fun H3 st3 => ?_
    rw [splAll (show (rnL d).length = rnZ.length by rw [rnL_len, rnZ_len])] at st3
    replace st3 : StB B H0 H3 (frP mb nbs s.size m (rowR ns (byN s)) ps ob (List.replicate (s.size + 1) false) x d) := by
      rw [ls2] at st3; exact st3
    have e0 : List.replicate (s.size + 1) false = rowP (byN s).length fun _ => False := by rw [hbl]; exact rowP_none _
    rw [e0] at st3
    clear st1 st2 hkt1
    have hopc : ∀ {G : Heap} {m1 : Nat → Nat → Option Nat} {xs : List Bool}, StB B H0 G (frP mb nbs s.size m1 (rowR ns (byN s)) ps ob xs x d) → VC.cell G x 0 = some (.int .i64 d.op) := fun sg => by rw [(sg.blk (ps.length + 2) fr_nd).cell]; exact rn_op d
    have hlc : ∀ {G : Heap} {m1 : Nat → Nat → Option Nat} {xs : List Bool}, StB B H0 G (frP mb nbs s.size m1 (rowR ns (byN s)) ps ob xs x d) → VC.cell G x 257 = some (.int .i64 d.l) := fun sg => by rw [(sg.blk (ps.length + 2) fr_nd).cell]; exact rn_l d
    have hrc : ∀ {G : Heap} {m1 : Nat → Nat → Option Nat} {xs : List Bool}, StB B H0 G (frP mb nbs s.size m1 (rowR ns (byN s)) ps ob xs x d) → VC.cell G x 258 = some (.int .i64 d.r) := fun sg => by rw [(sg.blk (ps.length + 2) fr_nd).cell]; exact rn_r d
    have hsc : ∀ {G : Heap} {m1 : Nat → Nat → Option Nat} {xs : List Bool}, StB B H0 G (frP mb nbs s.size m1 (rowR ns (byN s)) ps ob xs x d) → VC.cell G tb 2 = some (.string s) := fun sg => by rw [(sg.blk (kt + 1) (fr_old hkt)).cell]; rfl
    have hkt' : ∀ {xs : List Bool}, (ps ++ [pS tBool 4 (some ⟨ob, 0, none⟩) (s.size + 1) (s.size + 1) xs, pB 94 x (rnL d)])[kt]? = some (pB 158 tb (tbL na ns.length nc root s (.slice (some ⟨mb, 0, none⟩) ns.length ns.length))) := lgL hkt
    have hcont : ∀ {G : Heap} {m1 : Nat → Nat → Option Nat} {xs : List Bool} {r' : ReM} {j' i' rb : Nat}, StB B H0 G (frP mb nbs s.size m1 (rowR ns (byN s)) ps ob xs x d) → TreeAt ns r' j' → m1 j' i' = some rb → Blk G rb 4 ((rowP (byN s).length fun y => Mt (byN s) r' i' y).map Value.bool) := fun sg ht' hm' => by
      have h := (show MemoOk _ _ _ _ _ _ from sg.at_ 0 rfl).cont _ _ _ hm'
      rw [rowR_eq ht'] at h; exact h
    (conv => whnf)
    refine VSeq.cut (α := Unit) [] (fun _ => []) (fun _ G => ∃ m1, MGrow m m1 ∧ StB B H0 G (frP mb nbs s.size m1 (rowR ns (byN s)) ps ob (rowP (byN s).length fun y => Mt (byN s) r i y) x d)) ?_ ?_
    rotate_left
    · rintro ⟨⟩ G junk ⟨m1, hg1, sg⟩
      have hokg : MemoOk mb nbs s.size m1 (rowR ns (byN s)) G := sg.at_ 0 rfl
      (conv => whnf); refine VC.fa fl158_2 ?_
      (conv => whnf); refine ld1 (v := .slice (some ⟨mb, 0, none⟩) ns.length ns.length) ct156 (by rw [(sg.blk (kt + 1) (fr_old hkt)).cell]; rfl) trivial ?_
      (conv => whnf); refine VC.ix sl156 (by omega) (by omega) ?_
      (conv => whnf); refine ld1 (v := rowV nb s.size) ct159 (by rw [hokg.top.cell, Int.toNat_natCast, Nat.mul_one, Nat.zero_add, List.getElem?_map, hnb]; rfl) trivial ?_
      (conv => whnf); refine VC.ix sl159 (by omega) (by omega) ?_
      have sg' : StB B H0 G (pMemo mb nbs s.size m1 (rowR ns (byN s)) :: (ps ++ [pS tBool 4 (some ⟨ob, 0, none⟩) (s.size + 1) (s.size + 1) (rowP (byN s).length fun y => Mt (byN s) r i y)])) :=
        sg.subl (List.Sublist.cons_cons _ (List.Sublist.append_left (List.Sublist.cons_cons _ (List.nil_sublist _)) _))
      rw [show 0 + (i : Int).toNat * 1 = i by omega]
      (conv => whnf); refine stMemo sg' hnb hi (rowR_eq ht i) fun G2 st2 => ?_
      (conv => whnf)
      exact ⟨putM m1 j i ob, ob, rfl, by unfold putM; simp, hg1.put hm, st2⟩
    · (conv => whnf); refine VC.fa fl94_0 ?_
      (conv => whnf); refine ld1 (v := .int .i64 d.op) ct3 (hopc st3) trivial ?_
      rw [hop]
      cases r with
      | eps =>
        (conv => whnf); try (refine VSeq.run ?_)
        (conv => whnf); refine ixE (T := tBool) (j := i) sl111 st3 (ps.length + 1) fr_out (by rw [rowP_len]; omega) rfl ?_
        (conv => whnf); refine fr_put st3 (q := i) (by rw [rowP_len]; omega) fun G sg => ?_
        rw [epsP (by omega)] at sg
        (conv => whnf)
        exact ⟨rfl, (), rfl, m, .refl m, sg⟩
      | cls cs =>
        obtain ⟨d', hd', hop', hset⟩ := ht
        rw [hd] at hd'; cases hd'
        (conv => whnf); try (refine VSeq.run ?_)
        (conv => whnf); try (refine VSeq.run ?_)
        (conv => whnf); refine VC.fa fl158_1 ?_
        (conv => whnf); refine ld1 (v := .string s) ct9 (hsc st3) trivial ?_
        by_cases hil : i < s.size
        · (conv => whnf); rw [show decide ((i : Int) < (s.size : Int)) = true from decide_eq_true (by omega)]
          (conv => whnf); refine VC.fa fl158_1 ?_
          (conv => whnf); refine ld1 (v := .string s) ct9 (hsc st3) trivial ?_
          obtain ⟨c, hc1, hc2, hc3⟩ := bt_in hil
          have hbn := byN_get hc1
          (conv => whnf); refine vidxs rstrT rfl hc1 ?_
          (conv => whnf); refine VC.fa fl94_1 ?_
          (conv => whnf); rw [w64 (x := ((c.toNat : Nat) : Int)) (by omega) (by have := c.toNat_lt; omega)]
          refine ixa ar92 (by omega) (by have := c.toNat_lt; omega) ?_
          (conv => whnf); refine ld1 (v := .bool (d.set.getLsbD c.toNat)) ct4 (by
            rw [(st3.blk (ps.length + 2) fr_nd).cell, show (0 + 1 + ((c.toNat : Nat) : Int).toNat * 1 : Nat) = 1 + c.toNat by omega]
            exact rn_set d _ _ (bitsL_get d.set (by have := c.toNat_lt; omega))) trivial ?_
          cases hb : d.set.getLsbD c.toNat with
          | true =>
            (conv => whnf); rw [w64 (x := (i : Int) + 1) (by omega) (by omega)]
            (conv => whnf); refine ixE (T := tBool) (j := i + 1) sl111 st3 (ps.length + 1) fr_out (by rw [rowP_len]; omega) rfl ?_
            (conv => whnf); refine fr_put st3 (q := i + 1) (by rw [rowP_len]; omega) fun G sg => ?_
            rw [clsP_yes hbn hb, hset] at sg
            (conv => whnf)
            exact ⟨rfl, (), rfl, m, .refl m, sg⟩
          | false =>
            rw [clsP_no (s := cs) (i := i) (fun c' hc' => by rw [hbn] at hc'; cases hc'; rw [← hset]; exact hb)] at st3
            (conv => whnf)
            exact ⟨rfl, (), rfl, m, .refl m, st3⟩
        · (conv => whnf); rw [show decide ((i : Int) < (s.size : Int)) = false from decide_eq_false (by omega)]
          rw [clsP_no (s := cs) (i := i) (fun c' hc' => by have := (List.getElem?_eq_some_iff.1 hc').1; omega)] at st3
          (conv => whnf)
          exact ⟨rfl, (), rfl, m, .refl m, st3⟩
      | cat a b =>
        obtain ⟨d', ja, jb, hd', hop', hl1, hl2, hta, htb⟩ := ht
        rw [hd] at hd'; cases hd'
        simp only [ReM.nodes] at hr
        (conv => whnf); try (refine VSeq.run ?_)
        (conv => whnf); try (refine VSeq.run ?_)
        (conv => whnf); try (refine VSeq.run ?_)
        (conv => whnf); refine VC.fa fl94_2 ?_
        (conv => whnf); refine ld1 (v := .int .i64 d.l) ct3 (hlc st3) trivial ?_
        rw [hl1]
        (conv => whnf); refine VCall.mk (IH a (by omega) st3 hkt' hta hi) ?_
        rintro _ G1 ⟨m1, ra, rfl, hra, hg1, sg1⟩
        rw [catP_zero (byN s) a b i] at sg1
        (conv => whnf)
        refine VLoop.mk [10] (fun q : Nat => [.int .i64 (q : Int)]) (fun q G => i ≤ q ∧ q ≤ s.size + 1 ∧ ∃ m2, MGrow m1 m2 ∧ StB B H0 G (frP mb nbs s.size m2 (rowR ns (byN s)) ps ob (rowP (byN s).length (catP (byN s) a b i q)) x d)) (fun q _ => s.size + 1 - q) ?_ ?_
        · (conv => whnf)
          exact ⟨i, rfl, Nat.le_refl _, by omega, m1, .refl m1, sg1⟩
        · rintro q G junk ⟨hiq, hqs, m2, hg2, sg⟩
          (conv => whnf); refine VC.fa fl158_1 ?_
          (conv => whnf); refine ld1 (v := .string s) ct9 (hsc sg) trivial ?_
          (conv => whnf); refine VIte.mk (fun hz => ?_) (fun hz => ?_) <;> simp only [decide_eq_true_eq, decide_eq_false_iff_not] at hz
          · have hql : q ≤ s.size := by omega
            have hA := hcont sg hta (hg2 _ _ _ hra)
            (conv => whnf); try (refine VSeq.run ?_)
            (conv => whnf); refine VC.ix sl111 (by omega) (by omega) ?_
            obtain ⟨v0, hv0⟩ : ∃ v0, (rowP (byN s).length fun y => Mt (byN s) a i y)[q]? = some v0 := ⟨_, List.getElem?_eq_getElem (by rw [rowP_len]; omega)⟩
            have hv1 := rowP_is (by omega) hv0
            (conv => whnf); refine ld1 (v := .bool v0) ct4 (by rw [hA.cell, Int.toNat_natCast, Nat.mul_one, Nat.zero_add, List.getElem?_map, hv0]; rfl) trivial ?_
            cases v0 with
            | true =>
              (conv => whnf); refine VC.fa fl94_3 ?_
              (conv => whnf); refine ld1 (v := .int .i64 d.r) ct3 (hrc sg) trivial ?_
              rw [hl2]
              (conv => whnf); refine VCall.mk (IH b (by omega) sg hkt' htb hql) ?_
              rintro _ G2 ⟨m3, rb, rfl, hrb, hg3, sg3⟩
              replace sg3 : StB B H0 G2 (frP mb nbs s.size m3 (rowR ns (byN s)) ps ob (rowP (byN s).length (catP (byN s) a b i q)) x d) := sg3
              (conv => whnf); refine VCall.mk (join_b (kb := 0) (ys := rowP (byN s).length fun y => Mt (byN s) b q y) sg3 fr_out rfl (by omega) (fun H' hok' => by
                have h := MemoOk.cont hok' _ _ _ hrb
                rw [rowR_eq htb] at h; exact h) (by rw [rowP_len, rowP_len]) (by omega)) ?_
              rintro _ G3 sg4
              rw [fr_set, rowP_len, catP_take (hv1.1 rfl)] at sg4
              (conv => whnf); rw [w64 (x := (q : Int) + 1) (by omega) (by omega)]
              exact ⟨rfl, q + 1, rfl, ⟨by omega, by omega, m3, hg2.trans hg3, sg4⟩, by omega⟩
            | false =>
              rw [catP_skip (fun h => by have := hv1.2 h; cases this)] at sg
              (conv => whnf); rw [w64 (x := (q : Int) + 1) (by omega) (by omega)]
              exact ⟨rfl, q + 1, rfl, ⟨by omega, by omega, m2, hg2, sg⟩, by omega⟩
          · obtain rfl : q = s.size + 1 := by omega
            have e9 := catP_end (l := byN s) (a := a) (b := b) (i := i) (by omega)
            rw [show (byN s).length + 1 = s.size + 1 by omega] at e9
            rw [e9] at sg
            (conv => whnf)
            exact ⟨rfl, (), rfl, m2, hg1.trans hg2, sg⟩
      | star a =>
        obtain ⟨d', ja, hd', hop', hl1, hta⟩ := ht
        rw [hd] at hd'; cases hd'
        simp only [ReM.nodes] at hr
        (conv => whnf); try (refine VSeq.run ?_)
        (conv => whnf); try (refine VSeq.run ?_)
        (conv => whnf); try (refine VSeq.run ?_)
        (conv => whnf); try (refine VSeq.run ?_)
        (conv => whnf); refine ixE (T := tBool) (j := i) sl111 st3 (ps.length + 1) fr_out (by rw [rowP_len]; omega) rfl ?_
        (conv => whnf); refine fr_put st3 (q := i) (by rw [rowP_len]; omega) fun G1 sg1 => ?_
        rw [starP_zero (a := a) (by omega)] at sg1
        (conv => whnf)
        refine VLoop.mk [11] (fun q : Nat => [.int .i64 (q : Int)]) (fun q G => i ≤ q ∧ q ≤ s.size + 1 ∧ ∃ m2, MGrow m m2 ∧ StB B H0 G (frP mb nbs s.size m2 (rowR ns (byN s)) ps ob (rowP (byN s).length (starP (byN s) a i q)) x d)) (fun q _ => s.size + 1 - q) ?_ ?_
        · (conv => whnf)
          exact ⟨i, rfl, Nat.le_refl _, by omega, m, .refl m, sg1⟩
        · rintro q G junk ⟨hiq, hqs, m2, hg2, sg⟩
          (conv => whnf); refine VC.fa fl158_1 ?_
          (conv => whnf); refine ld1 (v := .string s) ct9 (hsc sg) trivial ?_
          (conv => whnf); refine VIte.mk (fun hz => ?_) (fun hz => ?_) <;> simp only [decide_eq_true_eq, decide_eq_false_iff_not] at hz
          · have hql : q ≤ s.size := by omega
            (conv => whnf); try (refine VSeq.run ?_)
            obtain ⟨v0, hv0⟩ : ∃ v0, (rowP (byN s).length (starP (byN s) a i q))[q]? = some v0 := ⟨_, List.getElem?_eq_getElem (by rw [rowP_len]; omega)⟩
            have hv1 := rowP_is (by omega) hv0
            (conv => whnf); refine ixO (j := q) (x := v0) sl111 sg (ps.length + 1) fr_out hv0 rfl fun b9 o9 cs9 hO9 hc9 hr9 => ?_
            obtain rfl := hr9
            (conv => whnf); refine ld1 ct4 hc9.one trivial ?_
            cases v0 with
            | true =>
              (conv => whnf); refine VC.fa fl94_2 ?_
              (conv => whnf); refine ld1 (v := .int .i64 d.l) ct3 (hlc sg) trivial ?_
              rw [hl1]
              (conv => whnf); refine VCall.mk (IH a (by omega) sg hkt' hta hql) ?_
              rintro _ G2 ⟨m3, rb, rfl, hrb, hg3, sg3⟩
              replace sg3 : StB B H0 G2 (frP mb nbs s.size m3 (rowR ns (byN s)) ps ob (rowP (byN s).length (starP (byN s) a i q)) x d) := sg3
              (conv => whnf); refine VCall.mk (join_b (kb := 0) (ys := rowP (byN s).length fun y => Mt (byN s) a q y) sg3 fr_out rfl (by omega) (fun H' hok' => by
                have h := MemoOk.cont hok' _ _ _ hrb
                rw [rowR_eq hta] at h; exact h) (by rw [rowP_len, rowP_len]) (by omega)) ?_
              rintro _ G3 sg4
              rw [fr_set, rowP_len, starP_take (hv1.1 rfl)] at sg4
              (conv => whnf); rw [w64 (x := (q : Int) + 1) (by omega) (by omega)]
              exact ⟨rfl, q + 1, rfl, ⟨by omega, by omega, m3, hg2.trans hg3, sg4⟩, by omega⟩
            | false =>
              rw [starP_skip (fun h => by have := hv1.2 h; cases this)] at sg
              (conv => whnf); rw [w64 (x := (q : Int) + 1) (by omega) (by omega)]
              exact ⟨rfl, q + 1, rfl, ⟨by omega, by omega, m2, hg2, sg⟩, by omega⟩
          · obtain rfl : q = s.size + 1 := by omega
            have e9 := starP_end (l := byN s) (a := a) (i := i) (by omega)
            rw [show (byN s).length + 1 = s.size + 1 by omega] at e9
            rw [e9] at sg
            (conv => whnf)
            exact ⟨rfl, (), rfl, m2, hg2, sg⟩
      | alt a b =>
        obtain ⟨d', ja, jb, hd', hop', hl1, hl2, hta, htb⟩ := ht
        rw [hd] at hd'; cases hd'
        simp only [ReM.nodes] at hr
        (conv => whnf); try (refine VSeq.run ?_)
        (conv => whnf); try (refine VSeq.run ?_)
        (conv => whnf); try (refine VSeq.run ?_)
        (conv => whnf); try (refine VSeq.run ?_)
        (conv => whnf); refine VDraw.heldZ (fun k => k = x) [] (sq [0,1,2,3,5,6,7,8] (.f 4 (.f 9 (sq [10,11] .e)))) rfl (by kernel_rfl) ?_
        (conv => whnf); refine VC.fa fl94_2 ?_
        (conv => whnf); refine ld1 (v := .int .i64 d.l) ct3 (hlc st3) rfl ?_
        rw [hl1]
        (conv => whnf); refine VC.fa fl94_3 ?_
        (conv => whnf); refine ld1 (v := .int .i64 d.r) ct3 (hrc st3) rfl ?_
        rw [hl2]
        (conv => whnf); refine VCall.mk (IH a (by omega) st3 hkt' hta hi) ?_
        rintro _ G1 ⟨m1, ra, rfl, hra, hg1, sg1⟩
        replace sg1 : StB B H0 G1 (frP mb nbs s.size m1 (rowR ns (byN s)) ps ob (rowP (byN s).length fun _ => False) x d) := sg1
        refine ⟨fun k hk => by rw [show k = x from hk]; exact (sg1.blk (ps.length + 2) fr_nd).trans (st3.blk (ps.length + 2) fr_nd).symm, ?_⟩
        (conv => whnf); refine VCall.mk (IH b (by omega) sg1 hkt' htb hi) ?_
        rintro _ G2 ⟨m2, rb, rfl, hrb, hg2, sg2⟩
        replace sg2 : StB B H0 G2 (frP mb nbs s.size m2 (rowR ns (byN s)) ps ob (rowP (byN s).length fun _ => False) x d) := sg2
        refine ⟨fun k hk => by rw [show k = x from hk]; exact (sg2.blk (ps.length + 2) fr_nd).trans (st3.blk (ps.length + 2) fr_nd).symm, ?_⟩
        rw [bothP_zero (a := a) (b := b) (i := i) (· || ·) rfl] at sg2
        (conv => whnf)
        refine VLoop.mk [14] (fun q : Nat => [.int .i64 (q : Int)]) (fun q G => i ≤ q ∧ q ≤ s.size + 1 ∧ ∃ m3, MGrow m2 m3 ∧ StB B H0 G (frP mb nbs s.size m3 (rowR ns (byN s)) ps ob (rowP (byN s).length (bothP (· || ·) (rowP (byN s).length fun y => Mt (byN s) a i y) (rowP (byN s).length fun y => Mt (byN s) b i y) q)) x d)) (fun q _ => s.size + 1 - q) ?_ ?_
        · (conv => whnf)
          exact ⟨i, rfl, Nat.le_refl _, by omega, m2, .refl m2, sg2⟩
        · rintro q G junk ⟨hiq, hqs, m3, hg4, sg⟩
          (conv => whnf); refine VC.fa fl158_1 ?_
          (conv => whnf); refine ld1 (v := .string s) ct9 (hsc sg) trivial ?_
          (conv => whnf); refine VIte.mk (fun hz => ?_) (fun hz => ?_) <;> simp only [decide_eq_true_eq, decide_eq_false_iff_not] at hz
          · have hql : q ≤ s.size := by omega
            have hA := hcont sg hta (hg4 _ _ _ (hg2 _ _ _ hra))
            obtain ⟨va, hva⟩ : ∃ v0, (rowP (byN s).length fun y => Mt (byN s) a i y)[q]? = some v0 := ⟨_, List.getElem?_eq_getElem (by rw [rowP_len]; omega)⟩
            obtain ⟨vb, hvb⟩ : ∃ v0, (rowP (byN s).length fun y => Mt (byN s) b i y)[q]? = some v0 := ⟨_, List.getElem?_eq_getElem (by rw [rowP_len]; omega)⟩
            have fin : ∀ z : Bool, (· || ·) va vb = z → (rowP (byN s).length (bothP (· || ·) (rowP (byN s).length fun y => Mt (byN s) a i y) (rowP (byN s).length fun y => Mt (byN s) b i y) q)).set q z = rowP (byN s).length (bothP (· || ·) (rowP (byN s).length fun y => Mt (byN s) a i y) (rowP (byN s).length fun y => Mt (byN s) b i y) (q + 1)) := fun z hz => by
              rw [← hz]; exact bothP_next (by omega) hva hvb
            (conv => whnf); try (refine VSeq.run ?_)
            (conv => whnf); refine VC.fa fl94_0 ?_
            (conv => whnf); refine ld1 (v := .int .i64 d.op) ct3 (hopc sg) trivial ?_
            rw [hop]
            (conv => whnf); try (refine VSeq.run ?_)
            (conv => whnf); refine VC.ix sl111 (by omega) (by omega) ?_
            (conv => whnf); refine ld1 (v := .bool va) ct4 (by rw [hA.cell, Int.toNat_natCast, Nat.mul_one, Nat.zero_add, List.getElem?_map, hva]; rfl) trivial ?_
            cases va with
            | true =>
              (conv => whnf); refine ixE (T := tBool) (j := q) sl111 sg (ps.length + 1) fr_out (by rw [rowP_len]; omega) rfl ?_
              (conv => whnf); refine fr_put sg (q := q) (by rw [rowP_len]; omega) fun G3 sg4 => ?_
              rw [fin _ (by cases vb <;> rfl)] at sg4
              (conv => whnf); rw [w64 (x := (q : Int) + 1) (by omega) (by omega)]
              exact ⟨rfl, q + 1, rfl, ⟨by omega, by omega, m3, hg4, sg4⟩, by omega⟩
            | false =>
              have hB := hcont sg htb (hg4 _ _ _ hrb)
              (conv => whnf); refine VC.ix sl111 (by omega) (by omega) ?_
              (conv => whnf); refine ld1 (v := .bool vb) ct4 (by rw [hB.cell, Int.toNat_natCast, Nat.mul_one, Nat.zero_add, List.getElem?_map, hvb]; rfl) trivial ?_
              (conv => whnf); refine ixE (T := tBool) (j := q) sl111 sg (ps.length + 1) fr_out (by rw [rowP_len]; omega) rfl ?_
              (conv => whnf); refine fr_put sg (q := q) (by rw [rowP_len]; omega) fun G3 sg4 => ?_
              rw [fin _ (by cases vb <;> rfl)] at sg4
              (conv => whnf); rw [w64 (x := (q : Int) + 1) (by omega) (by omega)]
              exact ⟨rfl, q + 1, rfl, ⟨by omega, by omega, m3, hg4, sg4⟩, by omega⟩
          · obtain rfl : q = s.size + 1 := by omega
            have e9 := bothP_end (l := byN s) (a := a) (b := b) (i := i) (· || ·) both_alt
            rw [show (byN s).length + 1 = s.size + 1 by omega] at e9
            rw [e9] at sg
            (conv => whnf)
            exact ⟨rfl, (), rfl, m3, (hg1.trans hg2).trans hg4, sg⟩
      | and_ a b =>
        obtain ⟨d', ja, jb, hd', hop', hl1, hl2, hta, htb⟩ := ht
        rw [hd] at hd'; cases hd'
        simp only [ReM.nodes] at hr
        (conv => whnf); try (refine VSeq.run ?_)
        (conv => whnf); try (refine VSeq.run ?_)
        (conv => whnf); try (refine VSeq.run ?_)
        (conv => whnf); try (refine VSeq.run ?_)
        (conv => whnf); refine VDraw.heldZ (fun k => k = x) [] (sq [0,1,2,3,5,6,7,8] (.f 4 (.f 9 (sq [10,11] .e)))) rfl (by kernel_rfl) ?_
        (conv => whnf); refine VC.fa fl94_2 ?_
        (conv => whnf); refine ld1 (v := .int .i64 d.l) ct3 (hlc st3) rfl ?_
        rw [hl1]
        (conv => whnf); refine VC.fa fl94_3 ?_
        (conv => whnf); refine ld1 (v := .int .i64 d.r) ct3 (hrc st3) rfl ?_
        rw [hl2]
        (conv => whnf); refine VCall.mk (IH a (by omega) st3 hkt' hta hi) ?_
        rintro _ G1 ⟨m1, ra, rfl, hra, hg1, sg1⟩
        replace sg1 : StB B H0 G1 (frP mb nbs s.size m1 (rowR ns (byN s)) ps ob (rowP (byN s).length fun _ => False) x d) := sg1
        refine ⟨fun k hk => by rw [show k = x from hk]; exact (sg1.blk (ps.length + 2) fr_nd).trans (st3.blk (ps.length + 2) fr_nd).symm, ?_⟩
        (conv => whnf); refine VCall.mk (IH b (by omega) sg1 hkt' htb hi) ?_
        rintro _ G2 ⟨m2, rb, rfl, hrb, hg2, sg2⟩
        replace sg2 : StB B H0 G2 (frP mb nbs s.size m2 (rowR ns (byN s)) ps ob (rowP (byN s).length fun _ => False) x d) := sg2
        refine ⟨fun k hk => by rw [show k = x from hk]; exact (sg2.blk (ps.length + 2) fr_nd).trans (st3.blk (ps.length + 2) fr_nd).symm, ?_⟩
        rw [bothP_zero (a := a) (b := b) (i := i) (· && ·) rfl] at sg2
        (conv => whnf)
        refine VLoop.mk [14] (fun q : Nat => [.int .i64 (q : Int)]) (fun q G => i ≤ q ∧ q ≤ s.size + 1 ∧ ∃ m3, MGrow m2 m3 ∧ StB B H0 G (frP mb nbs s.size m3 (rowR ns (byN s)) ps ob (rowP (byN s).length (bothP (· && ·) (rowP (byN s).length fun y => Mt (byN s) a i y) (rowP (byN s).length fun y => Mt (byN s) b i y) q)) x d)) (fun q _ => s.size + 1 - q) ?_ ?_
        · (conv => whnf)
          exact ⟨i, rfl, Nat.le_refl _, by omega, m2, .refl m2, sg2⟩
        · rintro q G junk ⟨hiq, hqs, m3, hg4, sg⟩
          (conv => whnf); refine VC.fa fl158_1 ?_
          (conv => whnf); refine ld1 (v := .string s) ct9 (hsc sg) trivial ?_
          (conv => whnf); refine VIte.mk (fun hz => ?_) (fun hz => ?_) <;> simp only [decide_eq_true_eq, decide_eq_false_iff_not] at hz
          · have hql : q ≤ s.size := by omega
            have hA := hcont sg hta (hg4 _ _ _ (hg2 _ _ _ hra))
            obtain ⟨va, hva⟩ : ∃ v0, (rowP (byN s).length fun y => Mt (byN s) a i y)[q]? = some v0 := ⟨_, List.getElem?_eq_getElem (by rw [rowP_len]; omega)⟩
            obtain ⟨vb, hvb⟩ : ∃ v0, (rowP (byN s).length fun y => Mt (byN s) b i y)[q]? = some v0 := ⟨_, List.getElem?_eq_getElem (by rw [rowP_len]; omega)⟩
            have fin : ∀ z : Bool, (· && ·) va vb = z → (rowP (byN s).length (bothP (· && ·) (rowP (byN s).length fun y => Mt (byN s) a i y) (rowP (byN s).length fun y => Mt (byN s) b i y) q)).set q z = rowP (byN s).length (bothP (· && ·) (rowP (byN s).length fun y => Mt (byN s) a i y) (rowP (byN s).length fun y => Mt (byN s) b i y) (q + 1)) := fun z hz => by
              rw [← hz]; exact bothP_next (by omega) hva hvb
            (conv => whnf); try (refine VSeq.run ?_)
            (conv => whnf); refine VC.fa fl94_0 ?_
            (conv => whnf); refine ld1 (v := .int .i64 d.op) ct3 (hopc sg) trivial ?_
            rw [hop]
            (conv => whnf); try (refine VSeq.run ?_)
            (conv => whnf); try (refine VSeq.run ?_)
            (conv => whnf); refine VC.ix sl111 (by omega) (by omega) ?_
            (conv => whnf); refine ld1 (v := .bool va) ct4 (by rw [hA.cell, Int.toNat_natCast, Nat.mul_one, Nat.zero_add, List.getElem?_map, hva]; rfl) trivial ?_
            cases va with
            | true =>
              have hB := hcont sg htb (hg4 _ _ _ hrb)
              (conv => whnf); refine VC.ix sl111 (by omega) (by omega) ?_
              (conv => whnf); refine ld1 (v := .bool vb) ct4 (by rw [hB.cell, Int.toNat_natCast, Nat.mul_one, Nat.zero_add, List.getElem?_map, hvb]; rfl) trivial ?_
              (conv => whnf); refine ixE (T := tBool) (j := q) sl111 sg (ps.length + 1) fr_out (by rw [rowP_len]; omega) rfl ?_
              (conv => whnf); refine fr_put sg (q := q) (by rw [rowP_len]; omega) fun G3 sg4 => ?_
              rw [fin _ (by cases vb <;> rfl)] at sg4
              (conv => whnf); rw [w64 (x := (q : Int) + 1) (by omega) (by omega)]
              exact ⟨rfl, q + 1, rfl, ⟨by omega, by omega, m3, hg4, sg4⟩, by omega⟩
            | false =>
              (conv => whnf); refine ixE (T := tBool) (j := q) sl111 sg (ps.length + 1) fr_out (by rw [rowP_len]; omega) rfl ?_
              (conv => whnf); refine fr_put sg (q := q) (by rw [rowP_len]; omega) fun G3 sg4 => ?_
              rw [fin _ (by cases vb <;> rfl)] at sg4
              (conv => whnf); rw [w64 (x := (q : Int) + 1) (by omega) (by omega)]
              exact ⟨rfl, q + 1, rfl, ⟨by omega, by omega, m3, hg4, sg4⟩, by omega⟩
          · obtain rfl : q = s.size + 1 := by omega
            have e9 := bothP_end (l := byN s) (a := a) (b := b) (i := i) (· && ·) both_and
            rw [show (byN s).length + 1 = s.size + 1 by omega] at e9
            rw [e9] at sg
            (conv => whnf)
            exact ⟨rfl, (), rfl, m3, (hg1.trans hg2).trans hg4, sg⟩
      | minus a b =>
        obtain ⟨d', ja, jb, hd', hop', hl1, hl2, hta, htb⟩ := ht
        rw [hd] at hd'; cases hd'
        simp only [ReM.nodes] at hr
        (conv => whnf); try (refine VSeq.run ?_)
        (conv => whnf); try (refine VSeq.run ?_)
        (conv => whnf); try (refine VSeq.run ?_)
        (conv => whnf); try (refine VSeq.run ?_)
        (conv => whnf); refine VDraw.heldZ (fun k => k = x) [] (sq [0,1,2,3,5,6,7,8] (.f 4 (.f 9 (sq [10,11] .e)))) rfl (by kernel_rfl) ?_
        (conv => whnf); refine VC.fa fl94_2 ?_
        (conv => whnf); refine ld1 (v := .int .i64 d.l) ct3 (hlc st3) rfl ?_
        rw [hl1]
        (conv => whnf); refine VC.fa fl94_3 ?_
        (conv => whnf); refine ld1 (v := .int .i64 d.r) ct3 (hrc st3) rfl ?_
        rw [hl2]
        (conv => whnf); refine VCall.mk (IH a (by omega) st3 hkt' hta hi) ?_
        rintro _ G1 ⟨m1, ra, rfl, hra, hg1, sg1⟩
        replace sg1 : StB B H0 G1 (frP mb nbs s.size m1 (rowR ns (byN s)) ps ob (rowP (byN s).length fun _ => False) x d) := sg1
        refine ⟨fun k hk => by rw [show k = x from hk]; exact (sg1.blk (ps.length + 2) fr_nd).trans (st3.blk (ps.length + 2) fr_nd).symm, ?_⟩
        (conv => whnf); refine VCall.mk (IH b (by omega) sg1 hkt' htb hi) ?_
        rintro _ G2 ⟨m2, rb, rfl, hrb, hg2, sg2⟩
        replace sg2 : StB B H0 G2 (frP mb nbs s.size m2 (rowR ns (byN s)) ps ob (rowP (byN s).length fun _ => False) x d) := sg2
        refine ⟨fun k hk => by rw [show k = x from hk]; exact (sg2.blk (ps.length + 2) fr_nd).trans (st3.blk (ps.length + 2) fr_nd).symm, ?_⟩
        rw [bothP_zero (a := a) (b := b) (i := i) (fun p q => p && !q) rfl] at sg2
        (conv => whnf)
        refine VLoop.mk [14] (fun q : Nat => [.int .i64 (q : Int)]) (fun q G => i ≤ q ∧ q ≤ s.size + 1 ∧ ∃ m3, MGrow m2 m3 ∧ StB B H0 G (frP mb nbs s.size m3 (rowR ns (byN s)) ps ob (rowP (byN s).length (bothP (fun p q => p && !q) (rowP (byN s).length fun y => Mt (byN s) a i y) (rowP (byN s).length fun y => Mt (byN s) b i y) q)) x d)) (fun q _ => s.size + 1 - q) ?_ ?_
        · (conv => whnf)
          exact ⟨i, rfl, Nat.le_refl _, by omega, m2, .refl m2, sg2⟩
        · rintro q G junk ⟨hiq, hqs, m3, hg4, sg⟩
          (conv => whnf); refine VC.fa fl158_1 ?_
          (conv => whnf); refine ld1 (v := .string s) ct9 (hsc sg) trivial ?_
          (conv => whnf); refine VIte.mk (fun hz => ?_) (fun hz => ?_) <;> simp only [decide_eq_true_eq, decide_eq_false_iff_not] at hz
          · have hql : q ≤ s.size := by omega
            have hA := hcont sg hta (hg4 _ _ _ (hg2 _ _ _ hra))
            obtain ⟨va, hva⟩ : ∃ v0, (rowP (byN s).length fun y => Mt (byN s) a i y)[q]? = some v0 := ⟨_, List.getElem?_eq_getElem (by rw [rowP_len]; omega)⟩
            obtain ⟨vb, hvb⟩ : ∃ v0, (rowP (byN s).length fun y => Mt (byN s) b i y)[q]? = some v0 := ⟨_, List.getElem?_eq_getElem (by rw [rowP_len]; omega)⟩
            have fin : ∀ z : Bool, (fun p q => p && !q) va vb = z → (rowP (byN s).length (bothP (fun p q => p && !q) (rowP (byN s).length fun y => Mt (byN s) a i y) (rowP (byN s).length fun y => Mt (byN s) b i y) q)).set q z = rowP (byN s).length (bothP (fun p q => p && !q) (rowP (byN s).length fun y => Mt (byN s) a i y) (rowP (byN s).length fun y => Mt (byN s) b i y) (q + 1)) := fun z hz => by
              rw [← hz]; exact bothP_next (by omega) hva hvb
            (conv => whnf); try (refine VSeq.run ?_)
            (conv => whnf); refine VC.fa fl94_0 ?_
            (conv => whnf); refine ld1 (v := .int .i64 d.op) ct3 (hopc sg) trivial ?_
            rw [hop]
            (conv => whnf); try (refine VSeq.run ?_)
            (conv => whnf); try (refine VSeq.run ?_)
            (conv => whnf); refine VC.ix sl111 (by omega) (by omega) ?_
            (conv => whnf); refine ld1 (v := .bool va) ct4 (by rw [hA.cell, Int.toNat_natCast, Nat.mul_one, Nat.zero_add, List.getElem?_map, hva]; rfl) trivial ?_
            cases va with
            | true =>
              have hB := hcont sg htb (hg4 _ _ _ hrb)
              (conv => whnf); refine VC.ix sl111 (by omega) (by omega) ?_
              (conv => whnf); refine ld1 (v := .bool vb) ct4 (by rw [hB.cell, Int.toNat_natCast, Nat.mul_one, Nat.zero_add, List.getElem?_map, hvb]; rfl) trivial ?_
              (conv => whnf); refine ixE (T := tBool) (j := q) sl111 sg (ps.length + 1) fr_out (by rw [rowP_len]; omega) rfl ?_
              (conv => whnf); refine fr_put sg (q := q) (by rw [rowP_len]; omega) fun G3 sg4 => ?_
              rw [fin _ (by cases vb <;> rfl)] at sg4
              (conv => whnf); rw [w64 (x := (q : Int) + 1) (by omega) (by omega)]
              exact ⟨rfl, q + 1, rfl, ⟨by omega, by omega, m3, hg4, sg4⟩, by omega⟩
            | false =>
              (conv => whnf); refine ixE (T := tBool) (j := q) sl111 sg (ps.length + 1) fr_out (by rw [rowP_len]; omega) rfl ?_
              (conv => whnf); refine fr_put sg (q := q) (by rw [rowP_len]; omega) fun G3 sg4 => ?_
              rw [fin _ (by cases vb <;> rfl)] at sg4
              (conv => whnf); rw [w64 (x := (q : Int) + 1) (by omega) (by omega)]
              exact ⟨rfl, q + 1, rfl, ⟨by omega, by omega, m3, hg4, sg4⟩, by omega⟩
          · obtain rfl : q = s.size + 1 := by omega
            have e9 := bothP_end (l := byN s) (a := a) (b := b) (i := i) (fun p q => p && !q) both_minus
            rw [show (byN s).length + 1 = s.size + 1 by omega] at e9
            rw [e9] at sg
            (conv => whnf)
            exact ⟨rfl, (), rfl, m3, (hg1.trans hg2).trans hg4, sg⟩
end Go.Proofs.YtlnmhfhdjnenoaaGreatDoor
/- louperef03: Member; a tree that has no signs. (printed by mknme.py) -/
set_option linter.unusedVariables false
set_option linter.unusedSimpArgs false
set_option maxRecDepth 100000
namespace Go.Proofs.YtlnmhfhdjnenoaaGreatDoor
open Go.VC Go.Lib
/-- Whether the whole text is of the tree's language. -/
noncomputable def memB (l : List Nat) (r : ReM) : Bool := @decide (Mt l r 0 l.length) (Classical.propDecidable _)
theorem memB_iff (l : List Nat) (r : ReM) : memB l r = true ↔ Mt l r 0 l.length := @decide_eq_true_iff _ (Classical.propDecidable _)
theorem tree_sign {ns : List RnM} : ∀ {r : ReM} {i : Nat}, TreeAt ns r i → r.plain = false → ∃ d ∈ ns, d.op = 5 ∨ d.op = 6
  | .eps, _, _, h => by cases h
  | .cls _, _, _, h => by cases h
  | .cat a b, _, ⟨d, j, k, h1, h2, h3, h4, h5, h6⟩, h => by
    simp only [ReM.plain, Bool.and_eq_false_iff] at h
    rcases h with h | h
    · exact tree_sign h5 h
    · exact tree_sign h6 h
  | .alt a b, _, ⟨d, j, k, h1, h2, h3, h4, h5, h6⟩, h => by
    simp only [ReM.plain, Bool.and_eq_false_iff] at h
    rcases h with h | h
    · exact tree_sign h5 h
    · exact tree_sign h6 h
  | .star a, _, ⟨d, j, h1, h2, h3, h5⟩, h => tree_sign h5 (by simpa only [ReM.plain] using h)
  | .and_ a b, _, ⟨d, j, k, h1, h2, _⟩, _ => ⟨d, List.mem_of_getElem? h1, .inl h2⟩
  | .minus a b, _, ⟨d, j, k, h1, h2, _⟩, _ => ⟨d, List.mem_of_getElem? h1, .inr h2⟩
theorem plain_all {ns : List RnM} {r : ReM} {i : Nat} (ht : TreeAt ns r i) (hs : NoSg r ns) : (ns.all fun d => !(d.op == 5 || d.op == 6)) = r.plain := by
  cases hp : r.plain with
  | true =>
    rw [List.all_eq_true]
    intro d hd
    have := hs hp d hd
    simp [this.1, this.2]
  | false =>
    obtain ⟨d, hd, h⟩ := tree_sign ht hp
    rw [List.all_eq_false]
    refine ⟨d, hd, ?_⟩
    rcases h with h | h <;> simp [h]
set_option maxHeartbeats 4000000 in
theorem member_p {S : Nat → Prop} {H : Heap} {v : Value} {ns : List RnM} {root : Nat} {s : ByteArray} {r : ReM} (hS : ∀ k, S k → k < H.size) (hv : ReV S H v ns (root : Int)) (ht : TreeAt ns r root) (hs : s.size ≤ 4194303) :
    Pure Tryz.prog 14 #[v, .string s] H (.bool (memB (byN s) r)) := by
  have hN : ns.length ≤ 4194304 := hv.1
  have hbl := byN_len s
  refine FnOk.of_vc Tryz.func14 rfl (Tryz.call14 _) ?_
  (conv => whnf); refine re_box hv fun na nc hv' hD => ?_
  intro b0 H1 hq1 hs1 hb1 ha1
  have st1 := (St.nil H).box hq1 hs1 hb1 ha1
  have hb := st1.blk 0 rfl
  have hpl := hb.lt
  (conv => whnf); refine VDraw.heldZ (Old H1) [] (sq [0,1,3,4,6,7] (.f 2 (.f 5 (sq [8] (.f 9 (.f 10 .e)))))) rfl (by kernel_rfl) ?_
  (conv => whnf); refine re_load (S := S) hN hb ag32 hpl (hD.frame (st1.old.mono hS)) fun v2 hv2 => ?_
  (conv => whnf); refine VC.fa fl32_1 ?_
  (conv => whnf); refine ld1 (v := .int .i64 (root : Int)) ct3 (by rw [hb.cell]; rfl) hpl ?_
  (conv => whnf); refine VCall.mk (new3_c (rowR ns (byN s)) (fun k hk => st1.up (hS k hk)) hv2 hs) ?_
  rintro _ H2 ⟨tb, mb, nbs, na2, nc2, rfl, hD2, hnl, stN⟩
  refine ⟨stN.old, ?_⟩
  (conv => whnf); refine VCall.mk (from_c (B := Old H1) (kt := 0) (hD2.mono fun k hk => st1.up (hS k hk)) hnl hN hs (r.nodes + 1) r (by omega) stN rfl ht (i := 0) (Nat.zero_le _)) ?_
  rintro _ H3 ⟨m', rb, rfl, hrb, -, st3⟩
  refine ⟨st3.old, ?_⟩
  have hc := (show MemoOk _ _ _ _ _ _ from st3.at_ 0 rfl).cont _ _ _ hrb
  rw [rowR_eq ht] at hc
  (conv => whnf); refine VC.ix sl111 (by omega) (by omega) ?_
  (conv => whnf); refine ld1 (v := .bool (memB (byN s) r)) ct4 (by
    rw [hc.cell, Int.toNat_natCast, Nat.mul_one, Nat.zero_add, List.getElem?_map, rowP_get _ (show s.size ≤ (byN s).length by omega)]
    unfold memB
    rw [hbl]; rfl) trivial ?_
  refine ⟨st3.old, ?_⟩
  (conv => whnf)
  refine ⟨st3.old, ?_⟩
  (conv => whnf)
  exact ⟨rfl, (st1.call st3.old).old⟩
end Go.Proofs.YtlnmhfhdjnenoaaGreatDoor
/- regex.scanner: row: the walk. -/
set_option linter.unusedVariables false
set_option linter.unusedSimpArgs false
set_option maxRecDepth 100000
namespace Go.Proofs.YtlnmhfhdjnenoaaGreatDoor
open Go.VC Go.Lib
structure RowI (B : Nat → Prop) (H : Heap) (s q2 q3 i : Nat) (t : ByteArray) (os : List Int) (ps : List Pc) (f : AF) (fs : List AF) (j : Nat) (any : Bool) (G : Heap) : Prop where
  ex : ∃ (f' : AF) (r : ReM) (B' : Nat → Prop) (fn : Value) (a : Option Addr) (n cap : Nat), i ≤ j ∧ j ≤ t.size ∧ prun t ⟨i, f, fs⟩ = prun t ⟨j, f', fs⟩ ∧ (settleF f').row = (if any then some r else none) ∧
    (any = false → r = .eps ∧ f'.factor = none) ∧ (any = true → postB (bt t j) = false) ∧ f'.alt = f.alt ∧ f'.meet = f.meet ∧ f'.sign = f.sign ∧ f'.place = f.place ∧
    (∀ k, B k → B' k) ∧ Agr B H G ∧ StB B' G G (sP s t j a n cap os ps ++ [pB 77 q2 rule0, pB 77 q3 (ruleL r fn)]) ∧ GrowV B' G fn r
theorem esc_agr {B : Nat → Prop} {H H' : Heap} (hE : EscH H) (hB : B 0) (ha : Agr B H H') : EscH H' := by
  refine ⟨hE.1.eq (ha _ hB), ?_⟩
  have h := ha _ hB
  rw [Array.getElem?_eq_getElem hE.2] at h
  exact (Array.getElem?_eq_some_iff.1 h).1
theorem settle_none {f : AF} (h : f.factor = none) : settleF f = f := by unfold settleF; rw [h]
theorem settle_same (f : AF) : (settleF f).alt = f.alt ∧ (settleF f).meet = f.meet ∧ (settleF f).sign = f.sign ∧ (settleF f).place = f.place := by
  unfold settleF
  split <;> exact ⟨rfl, rfl, rfl, rfl⟩
set_option maxHeartbeats 16000000 in
theorem row_c {B : Nat → Prop} {H : Heap} {s i : Nat} {t : ByteArray} {os : List Int} {ps : List Pc} {f : AF} {fs : List AF} (hE : EscH H) (hEB : B 0) (ht : t.size ≤ 1048576) (hi : i ≤ t.size) (hos : os.length = fs.length) (hfs : fs.length ≤ 1000)
    (hrow : f.row = none) (hfac : f.factor = none) (IH : ∀ i', i < i' → AltSpec t i') (sc : Sc B H s t i os ps) :
    FnOkP Tryz.prog 78 #[.pointer (some ⟨s, 0, none⟩)] H
      (fun v H' => ∃ j f' r, i ≤ j ∧ j ≤ t.size ∧ (j = t.size ∨ bt t j = 124 ∨ bt t j = 38 ∨ bt t j = 45 ∨ bt t j = 41) ∧ prun t ⟨i, f, fs⟩ = prun t ⟨j, f', fs⟩ ∧ (settleF f').row.getD .eps = r ∧
        f'.alt = f.alt ∧ f'.meet = f.meet ∧ f'.sign = f.sign ∧ f'.place = f.place ∧ SR B H s t j os ps r v H')
      (fun x H' => SE B H t ⟨i, f, fs⟩ x H') := by
  obtain ⟨a, n, cap, st⟩ := sc
  refine FnOkP.of_vc Tryz.func78 rfl (Tryz.call78 _) ?_
  (conv => whnf); refine valloc (.agg rule0.toArray) rule0 rule_z rfl ?_
  intro q2 H1 hq1 hs1 hb1 ha1
  have st1 := st.box hq1 hs1 hb1 ha1
  (conv => whnf); refine vbuildS Tryz.underlying127 rfl _ rfl [] rfl ?_
  (conv => whnf); refine VCallP.of (VCall.mk (leaf_c (r := .eps) st1 rfl) ?_)
  rintro _ H2 ⟨B1, f1, rfl, s1, a2, st2, gs⟩
  obtain ⟨g1, c1, rfl⟩ := gs.fn
  (conv => whnf); refine valloc (.agg rule0.toArray) rule0 rule_z rfl ?_
  intro q3 H3 hq3 hs3 hb3 ha3
  have st3 := st2.box hq3 hs3 hb3 ha3
  rw [List.append_assoc] at st3
  replace st3 : StB B1 H2 H3 (sP s t i a n cap os ps ++ [pB 77 q2 rule0, pB 77 q3 rule0]) := st3
  (conv => whnf); refine stNBa (cs := ruleL .eps (.func (.func g1) #[] c1)) st3 _ rfl (lgR _ _ 1) (by simp [ruleL, rule0]) rfl fun H4 st4 ja4 js4 => ?_
  rw [lsR, spl2 rfl] at st4
  replace st4 : StB B1 H2 H4 (sP s t i a n cap os ps ++ [pB 77 q2 rule0, pB 77 q3 (ruleL .eps (.func (.func g1) #[] c1))]) := st4
  (conv => whnf)
  refine VLoopP.mk [4] (fun x : Nat × Bool => match x with | (_, b) => [.bool b]) (fun x G => match x with | (j, b) => RowI B H s q2 q3 i t os ps f fs j b G) (fun x _ => match x with | (j, _) => t.size - j) ?_ ?_
  · (conv => whnf)
    refine ⟨(i, false), rfl, ⟨f, .eps, B1, .func (.func g1) #[] c1, a, n, cap, Nat.le_refl _, hi, rfl, by rw [settle_none hfac]; exact hrow, fun _ => ⟨rfl, hfac⟩, fun h => Bool.noConfusion h, rfl, rfl, rfl, rfl, s1, ?_, st4.rebase, gs.frame st4.old fun k hk => hk⟩⟩
    exact (st1.old.trans (a2.mono fun k hk => st1.up hk)).trans fun k hk => st4.old k (s1 k hk)
  · rintro ⟨j, any⟩ G junk ⟨f', r, B2, f2, a2, n2, cap2, hij, hj, hpr, hr, hany, hpo, e1, e2, e3, e4, s2, ag, stg, gv⟩
    obtain ⟨gg, cc, rfl⟩ := gv.fn
    clear st st1 st2 st3 st4 gs hb1 hb3 ha1 ha3
    have hgd : (settleF f').row.getD .eps = r := by
      rw [hr]
      cases any with
      | false => exact (hany rfl).1.symm
      | true => rfl
    (conv => whnf); refine VCallP.of (pures (ended_p (stg.blk 0 rfl)) fun G1 hg1 => ?_)
    have sg1 := stg.call hg1
    by_cases h0 : j < t.size
    · rw [decide_eq_false (show ¬ t.size ≤ j by omega)]
      (conv => whnf); refine VCallP.of (pures (scnext_p (sg1.blk 0 rfl) h0) fun G2 hg2 => ?_)
      have sg2 := sg1.call hg2
      (conv => whnf); refine VSeqP.run ?_
      (conv => whnf)
      by_cases h124 : bt t j = 124
      · have d : (((bt t j : Nat) : Int) == 124) = true := by rw [h124]; rfl
        (conv => whnf); rw [d]
        clear d
        (conv => whnf); refine ldN (cs := ruleL r (.func (.func gg) #[] cc)) ag77 (ld_rule (sg2.blk _ (lgR _ _ 1))) trivial ?_
        (conv => whnf); refine stNBa (cs := ruleL r (.func (.func gg) #[] cc)) sg2 _ rfl (lgR _ _ 0) (by simp [ruleL, rule0]) rfl fun G9 sg9 ja js => ?_
        rw [lsR, spl2 rfl] at sg9
        (conv => whnf); refine ldN (cs := ruleL r (.func (.func gg) #[] cc)) ag77 (ld_rule (sg9.blk _ (lgR _ _ 0))) trivial ?_
        exact ⟨j, f', r, hij, hj, .inr (.inl h124), hpr, hgd, e1, e2, e3, e4, B2, _, rfl, s2, ag.trans fun k hk => sg9.old k (s2 k hk), ⟨a2, n2, cap2, sg9.lft.rebase⟩, gv.frame sg9.old fun k hk => hk⟩
      · have d : (((bt t j : Nat) : Int) == 124) = false := nofl h124
        (conv => whnf); rw [d]
        clear d
        by_cases h38 : bt t j = 38
        · have d : (((bt t j : Nat) : Int) == 38) = true := by rw [h38]; rfl
          (conv => whnf); rw [d]
          clear d
          (conv => whnf); refine ldN (cs := ruleL r (.func (.func gg) #[] cc)) ag77 (ld_rule (sg2.blk _ (lgR _ _ 1))) trivial ?_
          (conv => whnf); refine stNBa (cs := ruleL r (.func (.func gg) #[] cc)) sg2 _ rfl (lgR _ _ 0) (by simp [ruleL, rule0]) rfl fun G9 sg9 ja js => ?_
          rw [lsR, spl2 rfl] at sg9
          (conv => whnf); refine ldN (cs := ruleL r (.func (.func gg) #[] cc)) ag77 (ld_rule (sg9.blk _ (lgR _ _ 0))) trivial ?_
          exact ⟨j, f', r, hij, hj, .inr (.inr (.inl h38)), hpr, hgd, e1, e2, e3, e4, B2, _, rfl, s2, ag.trans fun k hk => sg9.old k (s2 k hk), ⟨a2, n2, cap2, sg9.lft.rebase⟩, gv.frame sg9.old fun k hk => hk⟩
        · have d : (((bt t j : Nat) : Int) == 38) = false := nofl h38
          (conv => whnf); rw [d]
          clear d
          by_cases h45 : bt t j = 45
          · have d : (((bt t j : Nat) : Int) == 45) = true := by rw [h45]; rfl
            (conv => whnf); rw [d]
            clear d
            (conv => whnf); refine ldN (cs := ruleL r (.func (.func gg) #[] cc)) ag77 (ld_rule (sg2.blk _ (lgR _ _ 1))) trivial ?_
            (conv => whnf); refine stNBa (cs := ruleL r (.func (.func gg) #[] cc)) sg2 _ rfl (lgR _ _ 0) (by simp [ruleL, rule0]) rfl fun G9 sg9 ja js => ?_
            rw [lsR, spl2 rfl] at sg9
            (conv => whnf); refine ldN (cs := ruleL r (.func (.func gg) #[] cc)) ag77 (ld_rule (sg9.blk _ (lgR _ _ 0))) trivial ?_
            exact ⟨j, f', r, hij, hj, .inr (.inr (.inr (.inl h45))), hpr, hgd, e1, e2, e3, e4, B2, _, rfl, s2, ag.trans fun k hk => sg9.old k (s2 k hk), ⟨a2, n2, cap2, sg9.lft.rebase⟩, gv.frame sg9.old fun k hk => hk⟩
          · have d : (((bt t j : Nat) : Int) == 45) = false := nofl h45
            (conv => whnf); rw [d]
            clear d
            by_cases h41 : bt t j = 41
            · have d : (((bt t j : Nat) : Int) == 41) = true := by rw [h41]; rfl
              (conv => whnf); rw [d]
              clear d
              (conv => whnf); refine ldN (cs := ruleL r (.func (.func gg) #[] cc)) ag77 (ld_rule (sg2.blk _ (lgR _ _ 1))) trivial ?_
              (conv => whnf); refine stNBa (cs := ruleL r (.func (.func gg) #[] cc)) sg2 _ rfl (lgR _ _ 0) (by simp [ruleL, rule0]) rfl fun G9 sg9 ja js => ?_
              rw [lsR, spl2 rfl] at sg9
              (conv => whnf); refine ldN (cs := ruleL r (.func (.func gg) #[] cc)) ag77 (ld_rule (sg9.blk _ (lgR _ _ 0))) trivial ?_
              exact ⟨j, f', r, hij, hj, .inr (.inr (.inr (.inr h41))), hpr, hgd, e1, e2, e3, e4, B2, _, rfl, s2, ag.trans fun k hk => sg9.old k (s2 k hk), ⟨a2, n2, cap2, sg9.lft.rebase⟩, gv.frame sg9.old fun k hk => hk⟩
            · have d : (((bt t j : Nat) : Int) == 41) = false := nofl h41
              (conv => whnf); rw [d]
              clear d
              (conv => whnf); try (refine VSeqP.run ?_)
              by_cases h42 : bt t j = 42
              · have d : (((bt t j : Nat) : Int) == 42) = true := by rw [h42]; rfl
                (conv => whnf); rw [d]
                clear d
                (conv => whnf); refine VC.fa fl74_1 ?_
                (conv => whnf); refine ld1 (v := .int .i64 ((j : Nat) : Int)) ct3 (by rw [(sg2.blk 0 rfl).cell]; rfl) trivial ?_
                (conv => whnf); refine VCallP.mk (sfail_p (c := 20) (e := j)) (fun _ _ h => h.elim) ?_
                rintro _ _ ⟨rfl, rfl⟩
                have hfn : f'.factor = none := by
                  cases any with
                  | false => exact (hany rfl).2
                  | true => have := hpo rfl; rw [h42] at this; exact absurd this (by decide)
                exact ⟨20, j, hpr.trans (prun_err (s := ⟨j, f', fs⟩) h0 (pstep_post0 (by rw [h42]; rfl) hfn)), rfl, ag.trans fun k hk => sg2.old k (s2 k hk)⟩
              · have d : (((bt t j : Nat) : Int) == 42) = false := nofl h42
                (conv => whnf); rw [d]
                clear d
                by_cases h43 : bt t j = 43
                · have d : (((bt t j : Nat) : Int) == 43) = true := by rw [h43]; rfl
                  (conv => whnf); rw [d]
                  clear d
                  (conv => whnf); refine VC.fa fl74_1 ?_
                  (conv => whnf); refine ld1 (v := .int .i64 ((j : Nat) : Int)) ct3 (by rw [(sg2.blk 0 rfl).cell]; rfl) trivial ?_
                  (conv => whnf); refine VCallP.mk (sfail_p (c := 20) (e := j)) (fun _ _ h => h.elim) ?_
                  rintro _ _ ⟨rfl, rfl⟩
                  have hfn : f'.factor = none := by
                    cases any with
                    | false => exact (hany rfl).2
                    | true => have := hpo rfl; rw [h43] at this; exact absurd this (by decide)
                  exact ⟨20, j, hpr.trans (prun_err (s := ⟨j, f', fs⟩) h0 (pstep_post0 (by rw [h43]; rfl) hfn)), rfl, ag.trans fun k hk => sg2.old k (s2 k hk)⟩
                · have d : (((bt t j : Nat) : Int) == 43) = false := nofl h43
                  (conv => whnf); rw [d]
                  clear d
                  by_cases h63 : bt t j = 63
                  · have d : (((bt t j : Nat) : Int) == 63) = true := by rw [h63]; rfl
                    (conv => whnf); rw [d]
                    clear d
                    (conv => whnf); refine VC.fa fl74_1 ?_
                    (conv => whnf); refine ld1 (v := .int .i64 ((j : Nat) : Int)) ct3 (by rw [(sg2.blk 0 rfl).cell]; rfl) trivial ?_
                    (conv => whnf); refine VCallP.mk (sfail_p (c := 20) (e := j)) (fun _ _ h => h.elim) ?_
                    rintro _ _ ⟨rfl, rfl⟩
                    have hfn : f'.factor = none := by
                      cases any with
                      | false => exact (hany rfl).2
                      | true => have := hpo rfl; rw [h63] at this; exact absurd this (by decide)
                    exact ⟨20, j, hpr.trans (prun_err (s := ⟨j, f', fs⟩) h0 (pstep_post0 (by rw [h63]; rfl) hfn)), rfl, ag.trans fun k hk => sg2.old k (s2 k hk)⟩
                  · have d : (((bt t j : Nat) : Int) == 63) = false := nofl h63
                    (conv => whnf); rw [d]
                    clear d
                    by_cases h123 : bt t j = 123
                    · have d : (((bt t j : Nat) : Int) == 123) = true := by rw [h123]; rfl
                      (conv => whnf); rw [d]
                      clear d
                      (conv => whnf); refine VC.fa fl74_1 ?_
                      (conv => whnf); refine ld1 (v := .int .i64 ((j : Nat) : Int)) ct3 (by rw [(sg2.blk 0 rfl).cell]; rfl) trivial ?_
                      (conv => whnf); refine VCallP.mk (sfail_p (c := 20) (e := j)) (fun _ _ h => h.elim) ?_
                      rintro _ _ ⟨rfl, rfl⟩
                      have hfn : f'.factor = none := by
                        cases any with
                        | false => exact (hany rfl).2
                        | true => have := hpo rfl; rw [h123] at this; exact absurd this (by decide)
                      exact ⟨20, j, hpr.trans (prun_err (s := ⟨j, f', fs⟩) h0 (pstep_post0 (by rw [h123]; rfl) hfn)), rfl, ag.trans fun k hk => sg2.old k (s2 k hk)⟩
                    · have d : (((bt t j : Nat) : Int) == 123) = false := nofl h123
                      (conv => whnf); rw [d]
                      clear d
                      (conv => whnf); try (refine VSeqP.run ?_)
                      have hfb : firstB (bt t j) := ⟨h124, h38, h45, h41, postB_no h42 h43 h63 h123⟩
                      (conv => whnf); refine VCallP.mk (atom_c (f := f') (fs := fs) (esc_agr hE hEB (ag.trans fun k hk => sg2.old k (s2 k hk))) (s2 _ hEB) ht h0 hos hfs hfb (fun i' hi' => IH i' (by omega)) (B := B2) (ps := ps ++ [pB 77 q2 rule0, pB 77 q3 (ruleL r (.func (.func gg) #[] cc))]) ⟨a2, n2, cap2, sg2.rebase⟩) ?_ ?_
                      rotate_left
                      · intro x G3 h
                        exact h.from hpr (ag.trans fun k hk => sg2.old k (s2 k hk)) s2
                      rintro _ G3 ⟨j1, r1, hj1, hj1t, hp1, ⟨B3, f3, rfl, s3, a3, ⟨a4, n4, cap4, sg3⟩, gv1⟩⟩
                      have ag2 : Agr B H G2 := ag.trans fun k hk => sg2.old k (s2 k hk)
                      have ag3 : Agr B H G3 := ag2.trans fun k hk => a3 k (s2 k hk)
                      have gv3 : GrowV B3 G3 (.func (.func gg) #[] cc) r := gv.frame (sg2.old.trans a3) s3
                      replace sg3 : StB B3 G3 G3 (sP s t j1 a4 n4 cap4 os ps ++ [pB 77 q2 rule0, pB 77 q3 (ruleL r (.func (.func gg) #[] cc))]) := sg3
                      (conv => whnf); refine VCallP.mk (repeats_c (k := 0) (f := { settleF f' with factor := some r1 }) (fs := fs) (by omega) hj1t rfl sg3 rfl gv1) ?_ ?_
                      rotate_left
                      · rintro x G4 ⟨c, p, h1, h2, h3⟩
                        exact ⟨c, p, (hpr.trans hp1).trans h1, h2, ag3.trans fun k hk => h3 k (s3 k (s2 k hk))⟩
                      rintro _ G4 ⟨j2, r2, hj2, hj2t, hpo2, hp2, ⟨B4, f4, rfl, s4, a5, sg4, gv2⟩⟩
                      have ag4 : Agr B H G4 := ag3.trans fun k hk => a5 k (s3 k (s2 k hk))
                      have gv4 : GrowV B4 G4 (.func (.func gg) #[] cc) r := gv3.frame a5 s4
                      obtain ⟨g4, c4, rfl⟩ := gv2.fn
                      replace sg4 : StB B4 G4 G4 (sP s t j2 a4 n4 cap4 os ps ++ [pB 77 q2 rule0, pB 77 q3 (ruleL r (.func (.func gg) #[] cc))]) := sg4
                      (conv => whnf); refine valloc (.agg rule0.toArray) rule0 rule_z rfl ?_
                      intro q5 G5 hq5 hs5 hb5 ha5
                      have sg5 := sg4.box hq5 hs5 hb5 ha5
                      rw [List.append_assoc] at sg5
                      (conv => whnf); refine stNBa (cs := ruleL r2 (.func (.func g4) #[] c4)) sg5 _ rfl (lgR _ _ 2) (by simp [ruleL, rule0]) rfl fun G6 sg6 ja6 js6 => ?_
                      rw [lsR, spl2 rfl] at sg6
                      replace sg6 : StB B4 G4 G6 (sP s t j2 a4 n4 cap4 os ps ++ [pB 77 q2 rule0, pB 77 q3 (ruleL r (.func (.func gg) #[] cc)), pB 77 q5 (ruleL r2 (.func (.func g4) #[] c4))]) := sg6
                      have ag6 : Agr B H G6 := ag4.trans fun k hk => sg6.old k (s4 k (s3 k (s2 k hk)))
                      have gv6 := gv4.frame sg6.old fun k hk => hk
                      have gv26 := gv2.frame sg6.old fun k hk => hk
                      have hp9 : prun t ⟨i, f, fs⟩ = prun t ⟨j2, { settleF f' with factor := some r2 }, fs⟩ := hpr.trans (hp1.trans hp2)
                      obtain ⟨z1, z2, z3, z4⟩ := settle_same f'
                      (conv => whnf)
                      cases any with
                      | false =>
                        replace hr : (settleF f').row = none := hr
                        (conv => whnf); try (refine VSeqP.run ?_)
                        (conv => whnf); refine ldN (cs := ruleL (r2) (.func (.func g4) #[] c4)) ag77 (ld_rule (sg6.blk _ (lgR _ _ 2))) trivial ?_
                        (conv => whnf); refine stNBa (cs := ruleL (r2) (.func (.func g4) #[] c4)) sg6 _ rfl (lgR _ _ 1) (by simp [ruleL]) rfl fun G9 sg9 ja9 js9 => ?_
                        rw [lsR] at sg9
                        have e9 : splice (ruleL r (.func (.func gg) #[] cc)) 0 (ruleL (r2) (.func (.func g4) #[] c4)) = ruleL (r2) (.func (.func g4) #[] c4) := spl2 rfl
                        replace sg9 : StB B4 _ G9 (sP s t j2 a4 n4 cap4 os ps ++ [pB 77 q2 rule0, pB 77 q3 (splice (ruleL r (.func (.func gg) #[] cc)) 0 (ruleL (r2) (.func (.func g4) #[] c4))), pB 77 q5 (ruleL (r2) (.func (.func g4) #[] c4))]) := sg9
                        rw [e9] at sg9
                        (conv => whnf)
                        refine ⟨rfl, (j2, true), rfl, ⟨{ settleF f' with factor := some r2 }, r2, B4, .func (.func g4) #[] c4, a4, n4, cap4, by omega, hj2t, hp9, ?_, fun h => Bool.noConfusion h, fun _ => hpo2, z1.trans e1, z2.trans e2, z3.trans e3, z4.trans e4, (fun k hk => s4 k (s3 k (s2 k hk))), ?_, (sg9.subl ((List.append_sublist_append_left _).2 (List.Sublist.cons_cons _ (List.Sublist.cons_cons _ (List.nil_sublist _))))).rebase, ?_⟩, ?_⟩
                        · show some (catO (settleF f').row r2) = some (r2)
                          rw [hr]; rfl
                        · exact ag6.trans (ja9.mono fun k hk => fun e => (sg6.rng _ (List.mem_append_right _ (List.mem_cons_of_mem _ List.mem_cons_self)) k e).1 ((fun k hk => s4 k (s3 k (s2 k hk))) k hk))
                        · exact gv26.frame (ja9.mono fun k hk => fun e => (sg6.rng _ (List.mem_append_right _ (List.mem_cons_of_mem _ List.mem_cons_self)) k e).1 hk) fun k hk => hk
                        · show t.size - j2 < t.size - j; omega
                      | true =>
                        replace hr : (settleF f').row = some r := hr
                        (conv => whnf); try (refine VSeqP.run ?_)
                        (conv => whnf); refine ldN (cs := ruleL r (.func (.func gg) #[] cc)) ag77 (ld_rule (sg6.blk _ (lgR _ _ 1))) trivial ?_
                        (conv => whnf); refine ldN (cs := ruleL r2 (.func (.func g4) #[] c4)) ag77 (ld_rule (sg6.blk _ (lgR _ _ 2))) trivial ?_
                        (conv => whnf); refine VCallP.of (VCall.mk (join_c .cat sg6 gv6 gv26) ?_)
                        rintro _ G7 ⟨B7, f7, rfl, s7, a7, sg7, gj⟩
                        obtain ⟨g7, c7, rfl⟩ := gj.fn
                        (conv => whnf); refine stNBa (cs := ruleL (.cat r r2) (.func (.func g7) #[] c7)) sg7 _ rfl (lgR _ _ 2) (by simp [ruleL]) rfl fun G8 sg8 ja8 js8 => ?_
                        rw [lsR] at sg8
                        have e8 : splice (ruleL r2 (.func (.func g4) #[] c4)) 0 (ruleL (.cat r r2) (.func (.func g7) #[] c7)) = ruleL (.cat r r2) (.func (.func g7) #[] c7) := spl2 rfl
                        replace sg8 : StB B7 G7 G8 (sP s t j2 a4 n4 cap4 os ps ++ [pB 77 q2 rule0, pB 77 q3 (ruleL r (.func (.func gg) #[] cc)), pB 77 q5 (splice (ruleL r2 (.func (.func g4) #[] c4)) 0 (ruleL (.cat r r2) (.func (.func g7) #[] c7)))]) := sg8
                        rw [e8] at sg8
                        have s8 : ∀ k, B k → B7 k := fun k hk => s7 k (s4 k (s3 k (s2 k hk)))
                        have ag8 : Agr B H G8 := (ag6.trans (a7.mono fun k hk => sg6.up (s4 k (s3 k (s2 k hk))))).trans fun k hk => sg8.old k (s8 k hk)
                        have gj8 := gj.frame sg8.old fun k hk => hk
                        (conv => whnf); refine ldN (cs := ruleL (.cat r r2) (.func (.func g7) #[] c7)) ag77 (ld_rule (sg8.blk _ (lgR _ _ 2))) trivial ?_
                        (conv => whnf); refine stNBa (cs := ruleL (.cat r r2) (.func (.func g7) #[] c7)) sg8 _ rfl (lgR _ _ 1) (by simp [ruleL]) rfl fun G9 sg9 ja9 js9 => ?_
                        rw [lsR] at sg9
                        have e9 : splice (ruleL r (.func (.func gg) #[] cc)) 0 (ruleL (.cat r r2) (.func (.func g7) #[] c7)) = ruleL (.cat r r2) (.func (.func g7) #[] c7) := spl2 rfl
                        replace sg9 : StB B7 _ G9 (sP s t j2 a4 n4 cap4 os ps ++ [pB 77 q2 rule0, pB 77 q3 (splice (ruleL r (.func (.func gg) #[] cc)) 0 (ruleL (.cat r r2) (.func (.func g7) #[] c7))), pB 77 q5 (ruleL (.cat r r2) (.func (.func g7) #[] c7))]) := sg9
                        rw [e9] at sg9
                        (conv => whnf)
                        refine ⟨rfl, (j2, true), rfl, ⟨{ settleF f' with factor := some r2 }, .cat r r2, B7, .func (.func g7) #[] c7, a4, n4, cap4, by omega, hj2t, hp9, ?_, fun h => Bool.noConfusion h, fun _ => hpo2, z1.trans e1, z2.trans e2, z3.trans e3, z4.trans e4, s8, ?_, (sg9.subl ((List.append_sublist_append_left _).2 (List.Sublist.cons_cons _ (List.Sublist.cons_cons _ (List.nil_sublist _))))).rebase, ?_⟩, ?_⟩
                        · show some (catO (settleF f').row r2) = some (.cat r r2)
                          rw [hr]; rfl
                        · exact ag8.trans (ja9.mono fun k hk => fun e => (sg8.rng _ (List.mem_append_right _ (List.mem_cons_of_mem _ List.mem_cons_self)) k e).1 (s8 k hk))
                        · exact gj8.frame (ja9.mono fun k hk => fun e => (sg8.rng _ (List.mem_append_right _ (List.mem_cons_of_mem _ List.mem_cons_self)) k e).1 hk) fun k hk => hk
                        · show t.size - j2 < t.size - j; omega
    · rw [decide_eq_true (show t.size ≤ j by omega)]
      (conv => whnf); refine ldN (cs := ruleL r (.func (.func gg) #[] cc)) ag77 (ld_rule (sg1.blk _ (lgR _ _ 1))) trivial ?_
      (conv => whnf); refine stNBa (cs := ruleL r (.func (.func gg) #[] cc)) sg1 _ rfl (lgR _ _ 0) (by simp [ruleL, rule0]) rfl fun G9 sg9 ja js => ?_
      rw [lsR, spl2 rfl] at sg9
      (conv => whnf); refine ldN (cs := ruleL r (.func (.func gg) #[] cc)) ag77 (ld_rule (sg9.blk _ (lgR _ _ 0))) trivial ?_
      exact ⟨j, f', r, hij, hj, .inl (by omega), hpr, hgd, e1, e2, e3, e4, B2, _, rfl, s2, ag.trans fun k hk => sg9.old k (s2 k hk), ⟨a2, n2, cap2, sg9.lft.rebase⟩, gv.frame sg9.old fun k hk => hk⟩
end Go.Proofs.YtlnmhfhdjnenoaaGreatDoor
/- regex.scanner: meets, alternatives: the walks. -/
set_option linter.unusedVariables false
set_option linter.unusedSimpArgs false
set_option maxRecDepth 100000
namespace Go.Proofs.YtlnmhfhdjnenoaaGreatDoor
open Go.VC Go.Lib
theorem settle_factor (f : AF) : (settleF f).factor = none := by
  unfold settleF
  split
  · rename_i h; exact h
  · rfl
theorem fold_same (f : AF) : (foldF f).alt = f.alt ∧ (foldF f).place = f.place ∧ (foldF f).row = none ∧ (foldF f).factor = none := by
  obtain ⟨h1, h2, h3, h4⟩ := settle_same f
  exact ⟨h1, h4, rfl, settle_factor f⟩
theorem fold_meet (f : AF) : (foldF f).meet = some (match f.meet with | none => (settleF f).row.getD .eps | some q => if f.sign = 38 then .and_ q ((settleF f).row.getD .eps) else .minus q ((settleF f).row.getD .eps)) := by
  obtain ⟨h1, h2, h3, h4⟩ := settle_same f
  show some (match (settleF f).meet with | none => (settleF f).row.getD .eps | some q => if (settleF f).sign = 38 then .and_ q ((settleF f).row.getD .eps) else .minus q ((settleF f).row.getD .eps)) = _
  rw [h2, h3]
theorem close_alt (f : AF) : (closeF f).alt = some (match f.alt with | none => (foldF f).meet.getD .eps | some q => .alt q ((foldF f).meet.getD .eps)) := by
  obtain ⟨h1, h2, h3, h4⟩ := fold_same f
  show some (match (foldF f).alt with | none => (foldF f).meet.getD .eps | some q => .alt q ((foldF f).meet.getD .eps)) = _
  rw [h1]
theorem close_same (f : AF) : (closeF f).meet = none ∧ (closeF f).place = f.place ∧ (closeF f).row = none ∧ (closeF f).factor = none := by
  obtain ⟨h1, h2, h3, h4⟩ := fold_same f
  exact ⟨rfl, h2, h3, h4⟩
structure MeetI (B : Nat → Prop) (H : Heap) (s q2 q3 i : Nat) (t : ByteArray) (os : List Int) (ps : List Pc) (f : AF) (fs : List AF) (j : Nat) (G : Heap) : Prop where
  ex : ∃ (f' : AF) (r : ReM) (B' : Nat → Prop) (fn : Value) (a : Option Addr) (n cap : Nat), i ≤ j ∧ j ≤ t.size ∧ (j = t.size ∨ bt t j = 124 ∨ bt t j = 38 ∨ bt t j = 45 ∨ bt t j = 41) ∧ prun t ⟨i, f, fs⟩ = prun t ⟨j, f', fs⟩ ∧ (foldF f').meet = some r ∧ f'.alt = f.alt ∧ f'.place = f.place ∧
    (∀ k, B k → B' k) ∧ Agr B H G ∧ StB B' G G (sP s t j a n cap os ps ++ [pB 77 q2 rule0, pB 77 q3 (ruleL r fn)]) ∧ GrowV B' G fn r
set_option maxHeartbeats 16000000 in
theorem meets_c {B : Nat → Prop} {H : Heap} {s i : Nat} {t : ByteArray} {os : List Int} {ps : List Pc} {f : AF} {fs : List AF} (hE : EscH H) (hEB : B 0) (ht : t.size ≤ 1048576) (hi : i ≤ t.size) (hos : os.length = fs.length) (hfs : fs.length ≤ 1000)
    (hmeet : f.meet = none) (hrow : f.row = none) (hfac : f.factor = none) (IH : ∀ i', i < i' → AltSpec t i') (sc : Sc B H s t i os ps) :
    FnOkP Tryz.prog 50 #[.pointer (some ⟨s, 0, none⟩)] H
      (fun v H' => ∃ j f' r, i ≤ j ∧ j ≤ t.size ∧ (j = t.size ∨ bt t j = 124 ∨ bt t j = 41) ∧ prun t ⟨i, f, fs⟩ = prun t ⟨j, f', fs⟩ ∧ (foldF f').meet = some r ∧ f'.alt = f.alt ∧ f'.place = f.place ∧ SR B H s t j os ps r v H')
      (fun x H' => SE B H t ⟨i, f, fs⟩ x H') := by
  obtain ⟨a, n, cap, st⟩ := sc
  refine FnOkP.of_vc Tryz.func50 rfl (Tryz.call50 _) ?_
  (conv => whnf); refine valloc (.agg rule0.toArray) rule0 rule_z rfl ?_
  intro q2 H1 hq1 hs1 hb1 ha1
  have st1 := st.box hq1 hs1 hb1 ha1
  (conv => whnf); refine VCallP.mk (row_c (f := f) (fs := fs) (esc_agr hE hEB st1.old) hEB ht hi hos hfs hrow hfac IH (B := B) (ps := ps ++ [pB 77 q2 rule0]) ⟨a, n, cap, st1.rebase⟩) ?_ ?_
  rotate_left
  · intro x H7 h
    exact h.from rfl st1.old fun k hk => hk
  rintro _ H2 ⟨j1, f1, r1, hij1, hj1, he1, hp1, hrw, e1, e2, e3, e5, ⟨B1, f3, rfl, s1, a1, ⟨a2, n2, cap2, st2⟩, gs⟩⟩
  obtain ⟨g1, c1, rfl⟩ := gs.fn
  replace st2 : StB B1 H2 H2 (sP s t j1 a2 n2 cap2 os ps ++ [pB 77 q2 rule0]) := st2
  (conv => whnf); refine valloc (.agg rule0.toArray) rule0 rule_z rfl ?_
  intro q3 H3 hq3 hs3 hb3 ha3
  have st3 := st2.box hq3 hs3 hb3 ha3
  rw [List.append_assoc] at st3
  replace st3 : StB B1 H2 H3 (sP s t j1 a2 n2 cap2 os ps ++ [pB 77 q2 rule0, pB 77 q3 rule0]) := st3
  (conv => whnf); refine stNBa (cs := ruleL r1 (.func (.func g1) #[] c1)) st3 _ rfl (lgR _ _ 1) (by simp [ruleL, rule0]) rfl fun H4 st4 ja4 js4 => ?_
  rw [lsR, spl2 rfl] at st4
  replace st4 : StB B1 H2 H4 (sP s t j1 a2 n2 cap2 os ps ++ [pB 77 q2 rule0, pB 77 q3 (ruleL r1 (.func (.func g1) #[] c1))]) := st4
  have a14 : Agr B H H4 := (st1.old.trans a1).trans fun k hk => st4.old k (s1 k hk)
  (conv => whnf)
  refine VLoopP.mk [] (fun _ : Nat => []) (fun j G => MeetI B H s q2 q3 i t os ps f fs j G) (fun j _ => t.size - j) ?_ ?_
  · (conv => whnf)
    exact ⟨j1, rfl, ⟨f1, r1, B1, .func (.func g1) #[] c1, a2, n2, cap2, hij1, hj1, he1, hp1, by rw [fold_meet, e2, hmeet, hrw], e1, e5, s1, a14, st4.rebase, gs.frame st4.old fun k hk => hk⟩⟩
  · rintro j G junk ⟨f', r, B2, f2, a2, n2, cap2, hij, hj, hend, hpr, hm, ha, e4, s2, ag, stg, gv⟩
    obtain ⟨gg, cc, rfl⟩ := gv.fn
    clear st st1 st2 st3 st4 gs hb1 hb3 ha1 ha3 a1 a14 s1
    (conv => whnf); refine VCallP.of (pures (ended_p (stg.blk 0 rfl)) fun G1 hg1 => ?_)
    have sg1 := stg.call hg1
    by_cases h0 : j < t.size
    · rw [decide_eq_false (show ¬ t.size ≤ j by omega)]
      have hend : bt t j = 124 ∨ bt t j = 38 ∨ bt t j = 45 ∨ bt t j = 41 := hend.resolve_left (by omega)
      (conv => whnf); refine VCallP.of (pures (scnext_p (sg1.blk 0 rfl) h0) fun G2 hg2 => ?_)
      have sg2 := sg1.call hg2
      (conv => whnf); try (refine VSeqP.run ?_)
      (conv => whnf)
      by_cases h38 : bt t j = 38
      · have d : (((bt t j : Nat) : Int) == 38) = true := by rw [h38]; rfl
        (conv => whnf); rw [d]
        (conv => whnf); refine VC.fa fl74_1 ?_
        (conv => whnf); refine ld1 (v := .int .i64 ((j : Nat) : Int)) ct3 (by rw [(sg2.blk 0 rfl).cell]; rfl) trivial ?_
        (conv => whnf); rw [w64 (x := ((j : Nat) : Int) + 1) (by omega) (by omega)]
        (conv => whnf); refine VC.fa fl74_1 ?_
        (conv => whnf); refine st1B sg2 0 ct3 rfl (by simp) rfl fun G3 sg3 => ?_
        replace sg3 : StB B2 G G3 (sP s t (j + 1) a2 n2 cap2 os ps ++ [pB 77 q2 rule0, pB 77 q3 (ruleL r (.func (.func gg) #[] cc))]) := sg3
        have ag3 : Agr B H G3 := ag.trans fun k hk => sg3.old k (s2 k hk)
        have gv3 := gv.frame sg3.old fun k hk => hk
        have hstep : prun t ⟨i, f, fs⟩ = prun t ⟨j + 1, { foldF f' with sign := 38 }, fs⟩ := hpr.trans (prun_step (s := ⟨j, f', fs⟩) h0 (by have := pstep_sign (t := t) (i := j) (f := f') (fs := fs) (.inl h38); rw [h38] at this; exact this))
        (conv => whnf); refine VDrawP.held (fun k => k = q3) [4] (sq [0,1] (.f 2 (.f 3 (.f 4 .e)))) (blind_all _ _) rfl (by kernel_rfl) ?_
        (conv => whnf); refine ldN (cs := ruleL r (.func (.func gg) #[] cc)) ag77 (ld_rule (sg3.blk _ (lgR _ _ 1))) rfl ?_
        (conv => whnf); refine VCallP.mk (row_c (f := { foldF f' with sign := 38 }) (fs := fs) (esc_agr hE hEB ag3) (s2 _ hEB) ht (by omega) hos hfs rfl (fold_same f').2.2.2 (fun i' hi' => IH i' (by omega)) (B := B2) (ps := ps ++ [pB 77 q2 rule0, pB 77 q3 (ruleL r (.func (.func gg) #[] cc))]) ⟨a2, n2, cap2, sg3.rebase⟩) ?_ ?_
        rotate_left
        · intro x H7 h
          exact h.from hstep ag3 s2
        rintro _ G4 ⟨j1, f1, r2, hij1, hj1, he1, hp1, hrw, e1, e2, e3, e5, ⟨B3, f3, rfl, s3, a3, ⟨a4, n4, cap4, sg4⟩, gs⟩⟩
        replace sg4 : StB B3 G4 G4 (sP s t j1 a4 n4 cap4 os ps ++ [pB 77 q2 rule0, pB 77 q3 (ruleL r (.func (.func gg) #[] cc))]) := sg4
        refine ⟨fun k hk => by rw [show k = q3 from hk]; exact (sg4.blk _ (lgR _ _ 1)).trans (sg3.blk _ (lgR _ _ 1)).symm, ?_⟩
        have ag4 : Agr B H G4 := ag3.trans fun k hk => a3 k (s2 k hk)
        (conv => whnf); refine VCallP.of (VCall.mk (join_c .and_ sg4 (gv3.frame a3 s3) gs) ?_)
        rintro _ G5 ⟨B5, f5, rfl, s5, a5, sg5, gj⟩
        refine ⟨fun k hk => by rw [show k = q3 from hk]; exact (sg5.blk _ (lgR _ _ 1)).trans (sg3.blk _ (lgR _ _ 1)).symm, ?_⟩
        obtain ⟨g5, c5, rfl⟩ := gj.fn
        (conv => whnf); refine stNBa (cs := ruleL (opR .and_ r r2) (.func (.func g5) #[] c5)) sg5 _ rfl (lgR _ _ 1) (by simp [ruleL]) rfl fun G6 sg6 ja6 js6 => ?_
        rw [lsR] at sg6
        have e6 : splice (ruleL r (.func (.func gg) #[] cc)) 0 (ruleL (opR .and_ r r2) (.func (.func g5) #[] c5)) = ruleL (opR .and_ r r2) (.func (.func g5) #[] c5) := spl2 rfl
        replace sg6 : StB B5 G5 G6 (sP s t j1 a4 n4 cap4 os ps ++ [pB 77 q2 rule0, pB 77 q3 (splice (ruleL r (.func (.func gg) #[] cc)) 0 (ruleL (opR .and_ r r2) (.func (.func g5) #[] c5)))]) := sg6
        rw [e6] at sg6
        have s6 : ∀ k, B k → B5 k := fun k hk => s5 k (s3 k (s2 k hk))
        have ag6 : Agr B H G6 := (ag4.trans (a5.mono fun k hk => sg4.up (s3 k (s2 k hk)))).trans fun k hk => sg6.old k (s6 k hk)
        (conv => whnf)
        refine ⟨rfl, j1, rfl, ⟨f1, opR .and_ r r2, B5, .func (.func g5) #[] c5, a4, n4, cap4, by omega, hj1, he1, hstep.trans hp1, by rw [fold_meet, e2, e3, show ({ foldF f' with sign := 38 } : AF).meet = (foldF f').meet from rfl, hm]; show some (if 38 = 38 then _ else _) = _; rw [if_pos rfl, hrw]; rfl, e1.trans ((fold_same f').1.trans ha), e5.trans ((fold_same f').2.1.trans e4), s6, ag6, sg6.rebase, gj.frame sg6.old fun k hk => hk⟩, by omega⟩
      · have d : (((bt t j : Nat) : Int) == 38) = false := nofl h38
        (conv => whnf); rw [d]
        clear d
        by_cases h45 : bt t j = 45
        · have d : (((bt t j : Nat) : Int) == 45) = true := by rw [h45]; rfl
          (conv => whnf); rw [d]
          (conv => whnf); refine VC.fa fl74_1 ?_
          (conv => whnf); refine ld1 (v := .int .i64 ((j : Nat) : Int)) ct3 (by rw [(sg2.blk 0 rfl).cell]; rfl) trivial ?_
          (conv => whnf); rw [w64 (x := ((j : Nat) : Int) + 1) (by omega) (by omega)]
          (conv => whnf); refine VC.fa fl74_1 ?_
          (conv => whnf); refine st1B sg2 0 ct3 rfl (by simp) rfl fun G3 sg3 => ?_
          replace sg3 : StB B2 G G3 (sP s t (j + 1) a2 n2 cap2 os ps ++ [pB 77 q2 rule0, pB 77 q3 (ruleL r (.func (.func gg) #[] cc))]) := sg3
          have ag3 : Agr B H G3 := ag.trans fun k hk => sg3.old k (s2 k hk)
          have gv3 := gv.frame sg3.old fun k hk => hk
          have hstep : prun t ⟨i, f, fs⟩ = prun t ⟨j + 1, { foldF f' with sign := 45 }, fs⟩ := hpr.trans (prun_step (s := ⟨j, f', fs⟩) h0 (by have := pstep_sign (t := t) (i := j) (f := f') (fs := fs) (.inr h45); rw [h45] at this; exact this))
          (conv => whnf); refine VDrawP.held (fun k => k = q3) [4] (sq [0,1] (.f 2 (.f 3 (.f 4 .e)))) (blind_all _ _) rfl (by kernel_rfl) ?_
          (conv => whnf); refine ldN (cs := ruleL r (.func (.func gg) #[] cc)) ag77 (ld_rule (sg3.blk _ (lgR _ _ 1))) rfl ?_
          (conv => whnf); refine VCallP.mk (row_c (f := { foldF f' with sign := 45 }) (fs := fs) (esc_agr hE hEB ag3) (s2 _ hEB) ht (by omega) hos hfs rfl (fold_same f').2.2.2 (fun i' hi' => IH i' (by omega)) (B := B2) (ps := ps ++ [pB 77 q2 rule0, pB 77 q3 (ruleL r (.func (.func gg) #[] cc))]) ⟨a2, n2, cap2, sg3.rebase⟩) ?_ ?_
          rotate_left
          · intro x H7 h
            exact h.from hstep ag3 s2
          rintro _ G4 ⟨j1, f1, r2, hij1, hj1, he1, hp1, hrw, e1, e2, e3, e5, ⟨B3, f3, rfl, s3, a3, ⟨a4, n4, cap4, sg4⟩, gs⟩⟩
          replace sg4 : StB B3 G4 G4 (sP s t j1 a4 n4 cap4 os ps ++ [pB 77 q2 rule0, pB 77 q3 (ruleL r (.func (.func gg) #[] cc))]) := sg4
          refine ⟨fun k hk => by rw [show k = q3 from hk]; exact (sg4.blk _ (lgR _ _ 1)).trans (sg3.blk _ (lgR _ _ 1)).symm, ?_⟩
          have ag4 : Agr B H G4 := ag3.trans fun k hk => a3 k (s2 k hk)
          (conv => whnf); refine VCallP.of (VCall.mk (join_c .minus sg4 (gv3.frame a3 s3) gs) ?_)
          rintro _ G5 ⟨B5, f5, rfl, s5, a5, sg5, gj⟩
          refine ⟨fun k hk => by rw [show k = q3 from hk]; exact (sg5.blk _ (lgR _ _ 1)).trans (sg3.blk _ (lgR _ _ 1)).symm, ?_⟩
          obtain ⟨g5, c5, rfl⟩ := gj.fn
          (conv => whnf); refine stNBa (cs := ruleL (opR .minus r r2) (.func (.func g5) #[] c5)) sg5 _ rfl (lgR _ _ 1) (by simp [ruleL]) rfl fun G6 sg6 ja6 js6 => ?_
          rw [lsR] at sg6
          have e6 : splice (ruleL r (.func (.func gg) #[] cc)) 0 (ruleL (opR .minus r r2) (.func (.func g5) #[] c5)) = ruleL (opR .minus r r2) (.func (.func g5) #[] c5) := spl2 rfl
          replace sg6 : StB B5 G5 G6 (sP s t j1 a4 n4 cap4 os ps ++ [pB 77 q2 rule0, pB 77 q3 (splice (ruleL r (.func (.func gg) #[] cc)) 0 (ruleL (opR .minus r r2) (.func (.func g5) #[] c5)))]) := sg6
          rw [e6] at sg6
          have s6 : ∀ k, B k → B5 k := fun k hk => s5 k (s3 k (s2 k hk))
          have ag6 : Agr B H G6 := (ag4.trans (a5.mono fun k hk => sg4.up (s3 k (s2 k hk)))).trans fun k hk => sg6.old k (s6 k hk)
          (conv => whnf)
          refine ⟨rfl, j1, rfl, ⟨f1, opR .minus r r2, B5, .func (.func g5) #[] c5, a4, n4, cap4, by omega, hj1, he1, hstep.trans hp1, by rw [fold_meet, e2, e3, show ({ foldF f' with sign := 45 } : AF).meet = (foldF f').meet from rfl, hm]; show some (if 45 = 38 then _ else _) = _; rw [if_neg (by decide), hrw]; rfl, e1.trans ((fold_same f').1.trans ha), e5.trans ((fold_same f').2.1.trans e4), s6, ag6, sg6.rebase, gj.frame sg6.old fun k hk => hk⟩, by omega⟩
        · have d : (((bt t j : Nat) : Int) == 45) = false := nofl h45
          (conv => whnf); rw [d]
          (conv => whnf); refine ldN (cs := ruleL r (.func (.func gg) #[] cc)) ag77 (ld_rule (sg2.blk _ (lgR _ _ 1))) trivial ?_
          (conv => whnf); refine stNBa (cs := ruleL r (.func (.func gg) #[] cc)) sg2 _ rfl (lgR _ _ 0) (by simp [ruleL, rule0]) rfl fun G9 sg9 ja js => ?_
          rw [lsR, spl2 rfl] at sg9
          (conv => whnf); refine ldN (cs := ruleL r (.func (.func gg) #[] cc)) ag77 (ld_rule (sg9.blk _ (lgR _ _ 0))) trivial ?_
          exact ⟨j, f', r, hij, hj, by omega, hpr, hm, ha, e4, B2, _, rfl, s2, ag.trans fun k hk => sg9.old k (s2 k hk), ⟨a2, n2, cap2, sg9.lft.rebase⟩, gv.frame sg9.old fun k hk => hk⟩
    · rw [decide_eq_true (show t.size ≤ j by omega)]
      (conv => whnf); refine ldN (cs := ruleL r (.func (.func gg) #[] cc)) ag77 (ld_rule (sg1.blk _ (lgR _ _ 1))) trivial ?_
      (conv => whnf); refine stNBa (cs := ruleL r (.func (.func gg) #[] cc)) sg1 _ rfl (lgR _ _ 0) (by simp [ruleL, rule0]) rfl fun G9 sg9 ja js => ?_
      rw [lsR, spl2 rfl] at sg9
      (conv => whnf); refine ldN (cs := ruleL r (.func (.func gg) #[] cc)) ag77 (ld_rule (sg9.blk _ (lgR _ _ 0))) trivial ?_
      exact ⟨j, f', r, hij, hj, by omega, hpr, hm, ha, e4, B2, _, rfl, s2, ag.trans fun k hk => sg9.old k (s2 k hk), ⟨a2, n2, cap2, sg9.lft.rebase⟩, gv.frame sg9.old fun k hk => hk⟩
structure AltI (B : Nat → Prop) (H : Heap) (s q2 q3 i : Nat) (t : ByteArray) (os : List Int) (ps : List Pc) (f : AF) (fs : List AF) (j : Nat) (G : Heap) : Prop where
  ex : ∃ (f' : AF) (r : ReM) (B' : Nat → Prop) (fn : Value) (a : Option Addr) (n cap : Nat), i ≤ j ∧ j ≤ t.size ∧ (j = t.size ∨ bt t j = 124 ∨ bt t j = 41) ∧ prun t ⟨i, f, fs⟩ = prun t ⟨j, f', fs⟩ ∧ (closeF f').alt = some r ∧ f'.place = f.place ∧
    (∀ k, B k → B' k) ∧ Agr B H G ∧ StB B' G G (sP s t j a n cap os ps ++ [pB 77 q2 rule0, pB 77 q3 (ruleL r fn)]) ∧ GrowV B' G fn r
set_option maxHeartbeats 16000000 in
theorem alts_c {B : Nat → Prop} {H : Heap} {s i : Nat} {t : ByteArray} {os : List Int} {ps : List Pc} {f : AF} {fs : List AF} (hE : EscH H) (hEB : B 0) (ht : t.size ≤ 1048576) (hi : i ≤ t.size) (hos : os.length = fs.length) (hfs : fs.length ≤ 1000)
    (halt : f.alt = none) (hmeet : f.meet = none) (hrow : f.row = none) (hfac : f.factor = none) (IH : ∀ i', i < i' → AltSpec t i') (sc : Sc B H s t i os ps) :
    FnOkP Tryz.prog 25 #[.pointer (some ⟨s, 0, none⟩)] H
      (fun v H' => ∃ j f' r, i ≤ j ∧ j ≤ t.size ∧ (j = t.size ∨ bt t j = 41) ∧ prun t ⟨i, f, fs⟩ = prun t ⟨j, f', fs⟩ ∧ (closeF f').alt = some r ∧ f'.place = f.place ∧ SR B H s t j os ps r v H')
      (fun x H' => SE B H t ⟨i, f, fs⟩ x H') := by
  obtain ⟨a, n, cap, st⟩ := sc
  refine FnOkP.of_vc Tryz.func25 rfl (Tryz.call25 _) ?_
  (conv => whnf); refine valloc (.agg rule0.toArray) rule0 rule_z rfl ?_
  intro q2 H1 hq1 hs1 hb1 ha1
  have st1 := st.box hq1 hs1 hb1 ha1
  (conv => whnf); refine VCallP.mk (meets_c (f := f) (fs := fs) (esc_agr hE hEB st1.old) hEB ht hi hos hfs hmeet hrow hfac IH (B := B) (ps := ps ++ [pB 77 q2 rule0]) ⟨a, n, cap, st1.rebase⟩) ?_ ?_
  rotate_left
  · intro x H7 h
    exact h.from rfl st1.old fun k hk => hk
  rintro _ H2 ⟨j1, f1, r1, hij1, hj1, he1, hp1, hrw, e1, e5, ⟨B1, f3, rfl, s1, a1, ⟨a2, n2, cap2, st2⟩, gs⟩⟩
  obtain ⟨g1, c1, rfl⟩ := gs.fn
  replace st2 : StB B1 H2 H2 (sP s t j1 a2 n2 cap2 os ps ++ [pB 77 q2 rule0]) := st2
  (conv => whnf); refine valloc (.agg rule0.toArray) rule0 rule_z rfl ?_
  intro q3 H3 hq3 hs3 hb3 ha3
  have st3 := st2.box hq3 hs3 hb3 ha3
  rw [List.append_assoc] at st3
  replace st3 : StB B1 H2 H3 (sP s t j1 a2 n2 cap2 os ps ++ [pB 77 q2 rule0, pB 77 q3 rule0]) := st3
  (conv => whnf); refine stNBa (cs := ruleL r1 (.func (.func g1) #[] c1)) st3 _ rfl (lgR _ _ 1) (by simp [ruleL, rule0]) rfl fun H4 st4 ja4 js4 => ?_
  rw [lsR, spl2 rfl] at st4
  replace st4 : StB B1 H2 H4 (sP s t j1 a2 n2 cap2 os ps ++ [pB 77 q2 rule0, pB 77 q3 (ruleL r1 (.func (.func g1) #[] c1))]) := st4
  have a14 : Agr B H H4 := (st1.old.trans a1).trans fun k hk => st4.old k (s1 k hk)
  (conv => whnf)
  refine VLoopP.mk [] (fun _ : Nat => []) (fun j G => AltI B H s q2 q3 i t os ps f fs j G) (fun j _ => t.size - j) ?_ ?_
  · (conv => whnf)
    exact ⟨j1, rfl, ⟨f1, r1, B1, .func (.func g1) #[] c1, a2, n2, cap2, hij1, hj1, he1, hp1, by rw [close_alt, e1, halt, hrw]; rfl, e5, s1, a14, st4.rebase, gs.frame st4.old fun k hk => hk⟩⟩
  · rintro j G junk ⟨f', r, B2, f2, a2, n2, cap2, hij, hj, hend, hpr, hm, e4, s2, ag, stg, gv⟩
    obtain ⟨gg, cc, rfl⟩ := gv.fn
    clear st st1 st2 st3 st4 gs hb1 hb3 ha1 ha3 a1 a14 s1
    (conv => whnf); refine VCallP.of (pures (ended_p (stg.blk 0 rfl)) fun G1 hg1 => ?_)
    have sg1 := stg.call hg1
    by_cases h0 : j < t.size
    · rw [decide_eq_false (show ¬ t.size ≤ j by omega)]
      have hend : bt t j = 124 ∨ bt t j = 41 := hend.resolve_left (by omega)
      (conv => whnf); refine VCallP.of (pures (scnext_p (sg1.blk 0 rfl) h0) fun G2 hg2 => ?_)
      have sg2 := sg1.call hg2
      (conv => whnf); try (refine VSeqP.run ?_)
      (conv => whnf)
      by_cases h124 : bt t j = 124
      · have d : (((bt t j : Nat) : Int) == 124) = true := by rw [h124]; rfl
        (conv => whnf); rw [d]
        (conv => whnf); refine VC.fa fl74_1 ?_
        (conv => whnf); refine ld1 (v := .int .i64 ((j : Nat) : Int)) ct3 (by rw [(sg2.blk 0 rfl).cell]; rfl) trivial ?_
        (conv => whnf); rw [w64 (x := ((j : Nat) : Int) + 1) (by omega) (by omega)]
        (conv => whnf); refine VC.fa fl74_1 ?_
        (conv => whnf); refine st1B sg2 0 ct3 rfl (by simp) rfl fun G3 sg3 => ?_
        replace sg3 : StB B2 G G3 (sP s t (j + 1) a2 n2 cap2 os ps ++ [pB 77 q2 rule0, pB 77 q3 (ruleL r (.func (.func gg) #[] cc))]) := sg3
        have ag3 : Agr B H G3 := ag.trans fun k hk => sg3.old k (s2 k hk)
        have gv3 := gv.frame sg3.old fun k hk => hk
        have hstep : prun t ⟨i, f, fs⟩ = prun t ⟨j + 1, closeF f', fs⟩ := hpr.trans (prun_step (s := ⟨j, f', fs⟩) h0 (pstep_bar h124))
        (conv => whnf); refine VDrawP.held (fun k => k = q3) [4] (sq [0,1] (.f 2 (.f 3 (.f 4 .e)))) (blind_all _ _) rfl (by kernel_rfl) ?_
        (conv => whnf); refine ldN (cs := ruleL r (.func (.func gg) #[] cc)) ag77 (ld_rule (sg3.blk _ (lgR _ _ 1))) rfl ?_
        (conv => whnf); refine VCallP.mk (meets_c (f := closeF f') (fs := fs) (esc_agr hE hEB ag3) (s2 _ hEB) ht (by omega) hos hfs (close_same f').1 (close_same f').2.2.1 (close_same f').2.2.2 (fun i' hi' => IH i' (by omega)) (B := B2) (ps := ps ++ [pB 77 q2 rule0, pB 77 q3 (ruleL r (.func (.func gg) #[] cc))]) ⟨a2, n2, cap2, sg3.rebase⟩) ?_ ?_
        rotate_left
        · intro x H7 h
          exact h.from hstep ag3 s2
        rintro _ G4 ⟨j1, f1, r2, hij1, hj1, he1, hp1, hrw, e1, e5, ⟨B3, f3, rfl, s3, a3, ⟨a4, n4, cap4, sg4⟩, gs⟩⟩
        replace sg4 : StB B3 G4 G4 (sP s t j1 a4 n4 cap4 os ps ++ [pB 77 q2 rule0, pB 77 q3 (ruleL r (.func (.func gg) #[] cc))]) := sg4
        refine ⟨fun k hk => by rw [show k = q3 from hk]; exact (sg4.blk _ (lgR _ _ 1)).trans (sg3.blk _ (lgR _ _ 1)).symm, ?_⟩
        have ag4 : Agr B H G4 := ag3.trans fun k hk => a3 k (s2 k hk)
        (conv => whnf); refine VCallP.of (VCall.mk (join_c .alt sg4 (gv3.frame a3 s3) gs) ?_)
        rintro _ G5 ⟨B5, f5, rfl, s5, a5, sg5, gj⟩
        refine ⟨fun k hk => by rw [show k = q3 from hk]; exact (sg5.blk _ (lgR _ _ 1)).trans (sg3.blk _ (lgR _ _ 1)).symm, ?_⟩
        obtain ⟨g5, c5, rfl⟩ := gj.fn
        (conv => whnf); refine stNBa (cs := ruleL (opR .alt r r2) (.func (.func g5) #[] c5)) sg5 _ rfl (lgR _ _ 1) (by simp [ruleL]) rfl fun G6 sg6 ja6 js6 => ?_
        rw [lsR] at sg6
        have e6 : splice (ruleL r (.func (.func gg) #[] cc)) 0 (ruleL (opR .alt r r2) (.func (.func g5) #[] c5)) = ruleL (opR .alt r r2) (.func (.func g5) #[] c5) := spl2 rfl
        replace sg6 : StB B5 G5 G6 (sP s t j1 a4 n4 cap4 os ps ++ [pB 77 q2 rule0, pB 77 q3 (splice (ruleL r (.func (.func gg) #[] cc)) 0 (ruleL (opR .alt r r2) (.func (.func g5) #[] c5)))]) := sg6
        rw [e6] at sg6
        have s6 : ∀ k, B k → B5 k := fun k hk => s5 k (s3 k (s2 k hk))
        have ag6 : Agr B H G6 := (ag4.trans (a5.mono fun k hk => sg4.up (s3 k (s2 k hk)))).trans fun k hk => sg6.old k (s6 k hk)
        (conv => whnf)
        refine ⟨rfl, j1, rfl, ⟨f1, opR .alt r r2, B5, .func (.func g5) #[] c5, a4, n4, cap4, by omega, hj1, he1, hstep.trans hp1, by rw [close_alt, e1, hm, hrw]; rfl, e5.trans ((close_same f').2.1.trans e4), s6, ag6, sg6.rebase, gj.frame sg6.old fun k hk => hk⟩, by omega⟩
      · have d : (((bt t j : Nat) : Int) == 124) = false := nofl h124
        (conv => whnf); rw [d]
        (conv => whnf); refine ldN (cs := ruleL r (.func (.func gg) #[] cc)) ag77 (ld_rule (sg2.blk _ (lgR _ _ 1))) trivial ?_
        (conv => whnf); refine stNBa (cs := ruleL r (.func (.func gg) #[] cc)) sg2 _ rfl (lgR _ _ 0) (by simp [ruleL, rule0]) rfl fun G9 sg9 ja js => ?_
        rw [lsR, spl2 rfl] at sg9
        (conv => whnf); refine ldN (cs := ruleL r (.func (.func gg) #[] cc)) ag77 (ld_rule (sg9.blk _ (lgR _ _ 0))) trivial ?_
        exact ⟨j, f', r, hij, hj, by omega, hpr, hm, e4, B2, _, rfl, s2, ag.trans fun k hk => sg9.old k (s2 k hk), ⟨a2, n2, cap2, sg9.lft.rebase⟩, gv.frame sg9.old fun k hk => hk⟩
    · rw [decide_eq_true (show t.size ≤ j by omega)]
      (conv => whnf); refine ldN (cs := ruleL r (.func (.func gg) #[] cc)) ag77 (ld_rule (sg1.blk _ (lgR _ _ 1))) trivial ?_
      (conv => whnf); refine stNBa (cs := ruleL r (.func (.func gg) #[] cc)) sg1 _ rfl (lgR _ _ 0) (by simp [ruleL, rule0]) rfl fun G9 sg9 ja js => ?_
      rw [lsR, spl2 rfl] at sg9
      (conv => whnf); refine ldN (cs := ruleL r (.func (.func gg) #[] cc)) ag77 (ld_rule (sg9.blk _ (lgR _ _ 0))) trivial ?_
      exact ⟨j, f', r, hij, hj, by omega, hpr, hm, e4, B2, _, rfl, s2, ag.trans fun k hk => sg9.old k (s2 k hk), ⟨a2, n2, cap2, sg9.lft.rebase⟩, gv.frame sg9.old fun k hk => hk⟩
theorem alt_all {t : ByteArray} (ht : t.size ≤ 1048576) : ∀ (n i : Nat), t.size - i ≤ n → i ≤ t.size → AltSpec t i
  | 0, i, hn, hi => fun B H s os ps f fs hE hEB hi hos hfs h1 h2 h3 h4 sc => alts_c hE hEB ht hi hos hfs h1 h2 h3 h4 (fun i' hi' => fun B H s os ps f fs _ _ hi2 => absurd hi2 (by omega)) sc
  | n + 1, i, hn, hi => fun B H s os ps f fs hE hEB hi hos hfs h1 h2 h3 h4 sc => alts_c hE hEB ht hi hos hfs h1 h2 h3 h4 (fun i' hi' => by
      by_cases hle : i' ≤ t.size
      · exact alt_all ht n i' (by omega) hle
      · exact fun B H s os ps f fs _ _ hi2 => absurd hi2 (by omega)) sc
end Go.Proofs.YtlnmhfhdjnenoaaGreatDoor
/- regex.Parse: the walk. -/
set_option linter.unusedVariables false
set_option linter.unusedSimpArgs false
set_option maxRecDepth 100000
namespace Go.Proofs.YtlnmhfhdjnenoaaGreatDoor
open Go.VC Go.Lib
def paRes (q2 q3 : Nat) (v : Value) (c e : Nat) : List Pc := [pB 24 q2 [v], pB 27 q3 (faultL c e)]
theorem paclosR {H : Heap} {q2 q3 : Nat} {K : Heap → Prop} (k : K H) : VClos Tryz.prog 24 #[.pointer (some ⟨q2, 0, none⟩), .pointer (some ⟨q3, 0, none⟩)] .returning .returning H K := by
  refine VClos.mk (R := fun H' => H' = H) (callsD_rec (R := fun H' => H' = H) Tryz.func24 rfl ⟨⟨_, rfl⟩, rfl, rfl, rfl, rfl, rfl⟩ .ret rfl ?_) (fun H' h => by rw [h]; exact k)
  (conv => whnf)
  refine ⟨rfl, ?_⟩
  (conv => whnf); refine ifneqN Tryz.underlying20 ?_
  (conv => whnf)
theorem paclosP {B : Nat → Prop} {H0 H : Heap} {q2 q3 c e c0 e0 : Nat} {v : Value} {ps : List Pc} {K : Heap → Prop} (st : StB B H0 H (paRes q2 q3 v c0 e0 ++ ps)) (k : ∀ H', StB B H0 H' (paRes q2 q3 .nilIface c e ++ ps) → K H') :
    VClos Tryz.prog 24 #[.pointer (some ⟨q2, 0, none⟩), .pointer (some ⟨q3, 0, none⟩)] (.panicking (pe (faultV c e))) (.panicking [{ v := faultV c e, recovered := true }]) H K := by
  refine VClos.mk (R := fun H' => StB B H0 H' (paRes q2 q3 .nilIface c e ++ ps)) (callsD_rec (R := fun H' => StB B H0 H' (paRes q2 q3 .nilIface c e ++ ps)) Tryz.func24 rfl ⟨⟨_, rfl⟩, rfl, rfl, rfl, rfl, rfl⟩ (.pan _) rfl ?_) k
  (conv => whnf)
  refine ⟨rfl, ?_⟩
  (conv => whnf); refine ifneq Tryz.underlying20 ?_
  (conv => whnf); refine VDraw.held (fun _ => False) 4 (sq [0,1] (.f 2 (.f 3 .e))) rfl (by kernel_rfl) ?_
  (conv => whnf); refine vta_sure Tryz.underlying27 (fun ms h => by cases h) ?_
  (conv => whnf); refine st1B st 0 ct24 rfl (by simp) rfl fun H1 st1 => ?_
  refine ⟨fun k hk => hk.elim, ?_⟩
  (conv => whnf); refine stNB (cs := faultL c e) st1 1 rfl rfl (Nat.le_refl _) rfl fun H3 st3 => ?_
  refine ⟨fun k hk => hk.elim, ?_⟩
  (conv => whnf)
  have e2 : splice (faultL c0 e0) 0 (faultL c e) = faultL c e := splAll rfl
  rw [e2] at st3
  exact st3
/-- What Parse answers. -/
def PaAns (t : ByteArray) (v : Value) : Prop := match parseM t with
  | .inl (c, p) => v = .tuple #[.nilIface, .agg #[.int .i64 (c : Int), .int .i64 p, .string ⟨#[]⟩]]
  | .inr r => v = .tuple #[nodeV r, .agg #[.int .i64 0, .int .i64 0, .string ⟨#[]⟩]]
theorem fault_z : (Tryz.prog.info? 27).bind (·.zero) = some (faultA 0 0) := by kernel_rfl
theorem ld_fault {H : Heap} {b c e : Nat} (h : Blk H b 27 (faultL c e)) : Cells H b 0 (faultL c e) := h.cells (fun j v hv => by rw [Nat.zero_add]; exact hv)
set_option maxHeartbeats 16000000 in
theorem parse_c {H : Heap} {t : ByteArray} (hE : EscH H) : FnOk Tryz.prog 7 #[.string t] H fun v H' => Agr (Old H) H H' ∧ PaAns t v := by
  refine FnOk.of_defer Tryz.func7 rfl (Tryz.call7 _) ⟨rfl, rfl, rfl, ⟨_, rfl⟩, rfl, rfl⟩ (fun vs w => Tryz.call24 _ w) ?_
  (conv => whnf); refine valloc .nilIface [.nilIface] rfl rfl ?_
  intro q2 H1 hq1 hs1 hb1 ha1
  have st1 := (St.nil H).box hq1 hs1 hb1 ha1
  (conv => whnf); refine valloc (faultA 0 0) (faultL 0 0) fault_z rfl ?_
  intro q3 H2 hq2 hs2 hb2 ha2
  have st2 := st1.box hq2 hs2 hb2 ha2
  replace st2 : StB (Old H) H H2 (paRes q2 q3 .nilIface 0 0) := st2
  by_cases hbig : 1048576 < t.size
  · have d1 : decide (1048576 < (t.size : Int)) = true := decide_eq_true (by omega)
    (conv => whnf); rw [d1]
    (conv => whnf); refine vbuildS Tryz.underlying27 rfl _ rfl (faultL 1 0) rfl ?_
    (conv => whnf); refine st1B st2 0 ct24 rfl (by simp) rfl fun H3 st3 => ?_
    (conv => whnf); refine stNB (cs := faultL 1 0) st3 1 rfl rfl (Nat.le_refl _) rfl fun H4 st4 => ?_
    have e2 : splice (faultL 0 0) 0 (faultL 1 0) = faultL 1 0 := splAll rfl
    rw [e2] at st4
    (conv => whnf); refine ld1 (v := .nilIface) ct24 (by rw [(st4.blk 0 rfl).cell]; rfl) trivial ?_
    (conv => whnf); refine ldN (cs := faultL 1 0) ag27 (ld_fault (st4.blk 1 rfl)) trivial ?_
    refine ⟨st4.old, ?_⟩
    unfold PaAns parseM
    rw [if_pos hbig]
    rfl
  · have d1 : decide (1048576 < (t.size : Int)) = false := decide_eq_false (by omega)
    have hpM : parseM t = prun t ⟨0, openF (-1), []⟩ := by unfold parseM; rw [if_neg hbig]
    have ans : ∀ {c p : Nat}, prun t ⟨0, openF (-1), []⟩ = .inl (c, (p : Int)) → PaAns t (.tuple #[.nilIface, faultA c p]) := fun h => by
      unfold PaAns; rw [hpM, h]; rfl
    (conv => whnf); rw [d1]
    (conv => whnf)
    refine ⟨rfl, ?_⟩
    (conv => whnf); refine vbuildS Tryz.underlying74 rfl _ rfl (scL t 0 (.slice none 0 0)) rfl ?_
    (conv => whnf); refine vbox (scL t 0 (.slice none 0 0)) rfl ?_
    intro s H3 hq3 hs3 hb3 ha3
    have sx3 := ((St.nil H2).box hq3 hs3 hb3 ha3).nils tPl 3
    have a23 : Agr (Old H2) H2 H3 := sx3.old
    have hE2 : EscH H2 := esc_agr hE (B := Old H) hE.2 st2.old
    have hE3 : EscH H3 := esc_agr hE2 (B := Old H2) hE2.2 a23
    have hclos : ∀ {H4 : Heap} {x : Value} (fr : Fr) (K : Heap → Prop), SE (Old H2) H3 t ⟨0, openF (-1), []⟩ x H4 → (∀ (c p : Nat) (H5 : Heap), PaAns t (.tuple #[.nilIface, faultA c p]) → StB (Old H) H H5 (paRes q2 q3 .nilIface c p) → K H5) →
        VClos Tryz.prog 24 #[.pointer (some ⟨q2, 0, none⟩), .pointer (some ⟨q3, 0, none⟩)] (.panicking (pe x)) (.panicking [{ v := x, recovered := true }]) H4 K := fun fr K ⟨c, p, h1, h2, h3⟩ k => by
      subst h2
      exact paclosP (ps := []) (st2.call (a23.trans h3)) fun H5 st5 => k c p H5 (ans h1) st5
    (conv => whnf); refine VCallP.mk (alt_all (by omega) t.size 0 (by omega) (by omega) (Old H2) H3 s [] [] (openF (-1)) [] hE3 hE2.2 (by omega) rfl (by decide) rfl rfl rfl rfl ⟨none, 0, 0, sx3.rebase⟩) ?_ ?_
    · rintro _ H4 ⟨j, f', r, hij, hj, hend, hpr, hcl, hpl, ⟨B1, f1, rfl, s1, a4, ⟨a2, n2, cap2, st4⟩, gv⟩⟩
      obtain ⟨g1, c1, rfl⟩ := gv.fn
      have a24 : Agr (Old H2) H2 H4 := a23.trans a4
      (conv => whnf); refine valloc (.agg rule0.toArray) rule0 rule_z rfl ?_
      intro q5 H5 hq5 hs5 hb5 ha5
      have st5 := st4.box hq5 hs5 hb5 ha5
      (conv => whnf); refine stNBa (cs := ruleL r (.func (.func g1) #[] c1)) st5 2 rfl rfl (by simp [ruleL, rule0]) rfl fun H6 st6 ja6 js6 => ?_
      replace st6 : StB B1 H4 H6 [pSc s t j (.slice a2 n2 cap2), pS tPl 3 a2 n2 cap2 [], pB 77 q5 (splice rule0 0 (ruleL r (.func (.func g1) #[] c1)))] := st6
      rw [spl2 rfl] at st6
      have a26 : Agr (Old H2) H2 H6 := a24.trans fun k hk => st6.old k (s1 k hk)
      (conv => whnf); refine VSeqP.run ?_
      (conv => whnf); refine VCallP.of (pures (ended_p (st6.blk 0 rfl)) fun H7 ha7 => ?_)
      have st7 := st6.call ha7
      have a27 : Agr (Old H2) H2 H7 := a26.trans (ha7.mono fun k hk => old_lt a26 hk)
      by_cases h0 : j < t.size
      · have h41 : bt t j = 41 := by rcases hend with h | h; omega; exact h
        rw [decide_eq_false (show ¬ t.size ≤ j by omega)]
        (conv => whnf); refine VC.fa fl74_1 ?_
        (conv => whnf); refine ld1 (v := .int .i64 ((j : Nat) : Int)) ct3 (by rw [(st7.blk 0 rfl).cell]; rfl) trivial ?_
        (conv => whnf); refine VCallP.mk (sfail_p (c := 20) (e := j)) (fun _ _ h => h.elim) ?_
        rintro _ _ ⟨rfl, rfl⟩
        (conv => whnf)
        refine paclosP (ps := []) (st2.call a27) fun H8 st8 => ?_
        (conv => whnf); refine ld1 (v := .nilIface) ct24 (by rw [(st8.blk 0 rfl).cell]; rfl) trivial ?_
        (conv => whnf); refine ldN (cs := faultL 20 j) ag27 (ld_fault (st8.blk 1 rfl)) trivial ?_
        exact ⟨st8.old, ans (hpr.trans (prun_err (s := ⟨j, f', []⟩) h0 (pstep_close0 h41)))⟩
      · rw [decide_eq_true (show t.size ≤ j by omega)]
        have hfin : prun t ⟨0, openF (-1), []⟩ = (if 2000 < r.nodes then .inl (24, 0) else .inr r) := by
          rw [hpr, prun_end (s := ⟨j, f', []⟩) h0]
          show (if 2000 < ((closeF f').alt.getD .eps).nodes then Sum.inl (24, 0) else Sum.inr ((closeF f').alt.getD .eps)) = _
          rw [hcl]; rfl
        have k5 : Blk H7 q5 77 (ruleL r (.func (.func g1) #[] c1)) := st7.blk 2 rfl
        (conv => whnf); refine VC.fa fl77_0 ?_
        (conv => whnf); refine ld1 (v := .int .i64 ((szR r : Nat) : Int)) ct3 (by rw [k5.cell]; rfl) trivial ?_
        by_cases hn : 2000 < r.nodes
        · have d2 : decide (2000 < ((szR r : Nat) : Int)) = true := decide_eq_true (by unfold szR; omega)
          rw [if_pos hn] at hfin
          have st8 := st2.call a27
          (conv => whnf); rw [d2]
          (conv => whnf); refine vbuildS Tryz.underlying27 rfl _ rfl (faultL 24 0) rfl ?_
          (conv => whnf); refine st1B st8 0 ct24 rfl (by simp) rfl fun H9 st9 => ?_
          (conv => whnf); refine stNB (cs := faultL 24 0) st9 1 rfl rfl (Nat.le_refl _) rfl fun H10 st10 => ?_
          have e2 : splice (faultL 0 0) 0 (faultL 24 0) = faultL 24 0 := splAll rfl
          rw [e2] at st10
          (conv => whnf)
          refine paclosR ?_
          (conv => whnf); refine ld1 (v := .nilIface) ct24 (by rw [(st10.blk 0 rfl).cell]; rfl) trivial ?_
          (conv => whnf); refine ldN (cs := faultL 24 0) ag27 (ld_fault (st10.blk 1 rfl)) trivial ?_
          exact ⟨st10.old, ans (c := 24) (p := 0) hfin⟩
        · have d2 : decide (2000 < ((szR r : Nat) : Int)) = false := decide_eq_false (by unfold szR; omega)
          rw [if_neg hn] at hfin
          (conv => whnf); rw [d2]
          (conv => whnf); refine VC.fa fl77_1 ?_
          (conv => whnf); refine ld1 (v := .func (.func g1) #[] c1) ct75 (by rw [k5.cell]; rfl) trivial ?_
          obtain ⟨g2, c2, hgc, hgrow⟩ := grow_p (gv.frame st7.old fun k hk => hk) (fun k hk => st7.up hk)
          injection hgc with hg1 hg2 hg3
          injection hg1 with hg1
          subst hg1 hg3
          (conv => whnf); rw [cap_arr]; refine VCallP.of (pures (hgrow H7 (Agr.refl _ _)) fun H8 ha8 => ?_)
          have st8 := (st2.call a27).call ha8
          obtain ⟨T1, v1, e1⟩ := nodeV_if r
          (conv => whnf); refine vbuildS Tryz.underlying27 rfl _ rfl (faultL 0 0) rfl ?_
          (conv => whnf); refine st1B st8 0 ct24 rfl (by simp) (nodeV_one r) fun H9 st9 => ?_
          (conv => whnf); refine stNB (cs := faultL 0 0) st9 1 rfl rfl (Nat.le_refl _) rfl fun H10 st10 => ?_
          have e2 : splice (faultL 0 0) 0 (faultL 0 0) = faultL 0 0 := splAll rfl
          rw [e2] at st10
          (conv => whnf)
          refine paclosR ?_
          (conv => whnf); refine ld1 (v := nodeV r) ct24 (by rw [(st10.blk 0 rfl).cell]; rfl) trivial ?_
          (conv => whnf); refine ldN (cs := faultL 0 0) ag27 (ld_fault (st10.blk 1 rfl)) trivial ?_
          refine ⟨st10.old, ?_⟩
          unfold PaAns
          rw [hpM, hfin]
          rfl
    · intro x H4 h
      (conv => whnf)
      refine hclos [] _ h fun c p H5 hans st5 => ?_
      (conv => whnf); refine ld1 (v := .nilIface) ct24 (by rw [(st5.blk 0 rfl).cell]; rfl) trivial ?_
      (conv => whnf); refine ldN (cs := faultL c p) ag27 (ld_fault (st5.blk 1 rfl)) trivial ?_
      exact ⟨st5.old, hans⟩
end Go.Proofs.YtlnmhfhdjnenoaaGreatDoor
/- What the parser tells: the errors' numbers and places, the size of trees; plain law. Faults compared. -/
set_option linter.unusedVariables false
set_option linter.unusedSimpArgs false
set_option maxRecDepth 100000
namespace Go.Proofs.YtlnmhfhdjnenoaaGreatDoor
open Go.VC Go.Lib
def PlOk (t : ByteArray) (f : AF) : Prop := -1 ≤ f.place ∧ f.place ≤ (t.size : Int)
structure PsOk (t : ByteArray) (s : RdS) : Prop where
  f : PlOk t s.f
  fs : ∀ g ∈ s.fs, PlOk t g
def ErOk (t : ByteArray) (c : Nat) (p : Int) : Prop := c ≠ 0 ∧ c ≤ 30 ∧ -1 ≤ p ∧ p ≤ (t.size : Int) + 10
def ToldOk (t : ByteArray) : Sum (Nat × Int) ReM → Prop
  | .inl (c, p) => ErOk t c p
  | .inr r => r.nodes ≤ 2000
theorem upM_no {t : ByteArray} {m i : Nat} {e : Nat × Nat} (h : upM t m i = .inl e) : e.1 = 20 ∧ e.2 ≤ i + 1 := by
  unfold upM at h
  split at h
  · split at h
    · cases h
    · split at h
      · cases h
      · cases h; exact ⟨rfl, Nat.le_refl _⟩
  · cases h
theorem endM_no {t : ByteArray} {p m i : Nat} {n : Int} {e : Nat × Nat} (h : endM t p m n i = .inl e) : (e.1 = 20 ∧ e.2 = i) ∨ (e.1 = 22 ∧ e.2 = p) := by
  unfold endM at h
  split at h
  · split at h
    · cases h; exact .inr ⟨rfl, rfl⟩
    · cases h
  · cases h; exact .inl ⟨rfl, rfl⟩
theorem bracesM_no {t : ByteArray} {i : Nat} {e : Nat × Nat} (h : bracesM t i = .inl e) : e.1 ≠ 0 ∧ e.1 ≤ 30 ∧ e.2 ≤ i + 10 := by
  unfold bracesM at h
  split at h
  · obtain ⟨a1, a2, -⟩ := numM_le (t := t) 3 (i + 1) 0
    generalize numM t 3 (i + 1) 0 = q at *
    split at h
    · rename_i e2 hu
      cases h
      have := upM_no hu
      refine ⟨?_, ?_, ?_⟩ <;> omega
    · rename_i n2 i2 hu
      have hi2 : i2 ≤ i + 9 := by
        unfold upM at hu
        split at hu
        · split at hu
          · cases hu; omega
          · split at hu
            · obtain ⟨b1, b2, -⟩ := numM_le (t := t) 3 (q.2 + 1) 0
              cases hu; omega
            · cases hu
        · cases hu; omega
      rcases endM_no h with ⟨h1, h2⟩ | ⟨h1, h2⟩
      · refine ⟨?_, ?_, ?_⟩ <;> omega
      · refine ⟨?_, ?_, ?_⟩ <;> omega
  · cases h; exact ⟨show (20 : Nat) ≠ 0 by decide, show (20 : Nat) ≤ 30 by decide, show i + 1 ≤ i + 10 by omega⟩
theorem pstep_no {t : ByteArray} {s : RdS} {e : Nat × Nat} (hi : s.i < t.size) (h : pstep t s = .inl e) : e.1 ≠ 0 ∧ e.1 ≤ 30 ∧ e.2 ≤ t.size + 10 := by
  have k : ∀ c : Nat, c ≠ 0 → c ≤ 30 → c ≠ 0 ∧ c ≤ 30 ∧ s.i ≤ t.size + 10 := fun c h1 h2 => ⟨h1, h2, by omega⟩
  unfold pstep at h
  split at h
  · split at h
    · cases h; exact k 20 (by decide) (by decide)
    · split at h
      · rename_i e2 hp
        cases h
        unfold postM at hp
        split at hp
        · cases hp
        · split at hp
          · cases hp
          · split at hp
            · cases hp
            · have := bracesM_no hp
              exact ⟨this.1, this.2.1, by omega⟩
      · cases h
  · split at h
    · cases h
    · split at h
      · cases h
      · split at h
        · split at h
          · cases h; exact k 20 (by decide) (by decide)
          · cases h
        · split at h
          · split at h
            · cases h; exact k 23 (by decide) (by decide)
            · cases h
          · split at h
            · rename_i e2 hr
              cases h
              have := readSet_no hr hi
              exact ⟨show (10 : Nat) ≠ 0 by decide, show (10 : Nat) ≤ 30 by decide, by show e2 ≤ _; omega⟩
            · cases h
theorem pl_settle {t : ByteArray} {f : AF} (h : PlOk t f) : PlOk t (settleF f) := by unfold PlOk; rw [(settle_same f).2.2.2]; exact h
theorem pl_fold {t : ByteArray} {f : AF} (h : PlOk t f) : PlOk t (foldF f) := by unfold PlOk; rw [(fold_same f).2.1]; exact h
theorem pl_close {t : ByteArray} {f : AF} (h : PlOk t f) : PlOk t (closeF f) := by unfold PlOk; rw [(close_same f).2.1]; exact h
theorem pstep_pl {t : ByteArray} {s s' : RdS} (hi : s.i < t.size) (hs : PsOk t s) (h : pstep t s = .inr s') : PsOk t s' := by
  unfold pstep at h
  split at h
  · split at h
    · cases h
    · split at h
      · cases h
      · cases h; exact ⟨hs.f, hs.fs⟩
  · split at h
    · cases h; exact ⟨pl_close hs.f, hs.fs⟩
    · split at h
      · cases h; exact ⟨pl_fold hs.f, hs.fs⟩
      · split at h
        · split at h
          · cases h
          · rename_i g r hfs
            cases h
            have := hs.fs
            rw [hfs] at this
            exact ⟨this g List.mem_cons_self, fun x hx => this x (List.mem_cons_of_mem _ hx)⟩
        · split at h
          · split at h
            · cases h
            · cases h
              refine ⟨⟨by show (-1 : Int) ≤ (s.i : Int); omega, by show (s.i : Int) ≤ _; omega⟩, fun g hg => ?_⟩
              rcases List.mem_cons.1 hg with rfl | hg
              · exact pl_settle hs.f
              · exact hs.fs g hg
          · split at h
            · cases h
            · cases h; exact ⟨pl_settle hs.f, hs.fs⟩
theorem pfin_ok {t : ByteArray} {s : RdS} (hs : PsOk t s) : ToldOk t (pfin s) := by
  unfold pfin
  split
  · show ToldOk t (if _ then _ else _)
    split
    · exact ⟨by decide, by decide, by decide, by omega⟩
    · rename_i h; show ReM.nodes _ ≤ 2000; omega
  · have := hs.f
    unfold PlOk at this
    exact ⟨by decide, by decide, this.1, by omega⟩
theorem prunN_ok {t : ByteArray} : ∀ (n : Nat) (s : RdS), PsOk t s → ToldOk t (prunN t n s)
  | 0, s, h => pfin_ok h
  | n + 1, s, h => by
    unfold prunN
    by_cases hi : s.i < t.size
    · rw [if_pos hi]
      cases hp : pstep t s with
      | inl e =>
        have := pstep_no hi hp
        exact ⟨this.1, this.2.1, by show (-1 : Int) ≤ (e.2 : Int); omega, by show (e.2 : Int) ≤ _; omega⟩
      | inr s' => exact prunN_ok n s' (pstep_pl hi h hp)
    · rw [if_neg hi]; exact pfin_ok h
theorem parseM_ok (t : ByteArray) : ToldOk t (parseM t) := by
  unfold parseM
  split
  · exact ⟨by decide, by decide, by decide, by omega⟩
  · exact prunN_ok _ _ ⟨⟨by decide, by show (-1 : Int) ≤ _; omega⟩, fun g hg => by cases hg⟩
theorem parseM_pl {t : ByteArray} {c : Nat} {p : Int} (h : parseM t = .inl (c, p)) : p ≤ 1048600 := by
  have h1 := parseM_ok t
  rw [h] at h1
  obtain ⟨-, -, -, h4⟩ : ErOk t c p := h1
  unfold parseM at h
  split at h
  · cases h; decide
  · omega
/-! ### faults with any place -/
def fiL (c : Nat) (p : Int) : List Value := [.int .i64 (c : Int), .int .i64 p, .string ⟨#[]⟩]
def fiLits (c : Nat) (p : Int) : List Lit := [.int .i64 (c : Int), .int .i64 p, .string []]
theorem fi_lits {c : Nat} {p : Int} (hc : c < 9223372036854775808) (hp : inK .i64 p) : Tryz.prog.keyLits 3 27 (fiL c p) = some (fiLits c p) := by
  have c0 : Tryz.prog.cellsOf 27 = 3 := by kernel_rfl
  have c1 : Tryz.prog.cellsOf 25 = 1 := by kernel_rfl
  have c2 : Tryz.prog.cellsOf 3 = 1 := by kernel_rfl
  have c3 : Tryz.prog.cellsOf 9 = 1 := by kernel_rfl
  have h00 : (⟨#[]⟩ : ByteArray).size ≤ maxLen := Nat.zero_le _
  simp [Program.keyLits, Tryz.underlying27, Tryz.underlying25, Tryz.underlying3, Tryz.underlying9, c0, c1, c2, c3, fiL, fiLits, h00, int_wf9 (inI64 hc), int_wf9 hp]
theorem fiLits_inj {c c' : Nat} {p p' : Int} : decide (c = c' ∧ p = p') = true ↔ fiLits c p = fiLits c' p' := by
  unfold fiLits
  rw [decide_eq_true_eq]
  constructor
  · rintro ⟨rfl, rfl⟩; rfl
  · intro h
    simp only [List.cons.injEq, Lit.int.injEq, true_and, and_true] at h
    exact ⟨by omega, by omega⟩
theorem fi_eq {c c' : Nat} {p p' : Int} (hc : c < 9223372036854775808) (hp : inK .i64 p) (hc' : c' < 9223372036854775808) (hp' : inK .i64 p') {x y : Operand} {S : Nat → Prop} {H : Heap} {K : Value → Prop} (k : K (.bool (decide (c = c' ∧ p = p')))) :
    VDet Tryz.prog (do eqGuard .eql 27 x y (.agg (fiL c p).toArray) (.agg (fiL c' p').toArray); binOp .eql 27 (.agg (fiL c p).toArray) (.agg (fiL c' p').toArray)) S H K :=
  veq (m := 3) (la := fiLits c p) (lb := fiLits c' p') (by kernel_rfl) (by decide) (Tryz.eqGuardType27) rfl rfl (fi_lits hc hp) (fi_lits hc' hp') fiLits_inj k
end Go.Proofs.YtlnmhfhdjnenoaaGreatDoor
/- nfa.Build over any tree: an error where there are signs: the walk. -/
set_option linter.unusedVariables false
set_option linter.unusedSimpArgs false
set_option maxRecDepth 100000
namespace Go.Proofs.YtlnmhfhdjnenoaaGreatDoor
open Go.VC
def erI (bad : Bool) : Int := if bad then 30 else 0
def bdE (er : Bool) (n : Nat) (v sub : Value) : List Value := [.int .i64 (n : Int), .int .i64 0, .int .i64 0, v, sub, .int .i64 (erI er)]
section
variable {B : Nat → Prop} {H0 H : Heap} {rest : List Pc} {bb n : Nat} {v sub : Value} {er : Bool}
end
abbrev bdP (bb : Nat) (er : Bool) (n : Nat) (a : Option Addr) (c : Nat) (es : List EdM) (rest : List Pc) : List Pc := pB tBd bb (bdE er n (.slice a es.length c) .nilFunc) :: pS tEd 104 a es.length c es :: rest
/-- What part leaves, loosely. -/
structure PartW (B : Nat → Prop) (H0 : Heap) (bb : Nat) (er : Bool) (n : Nat) (es : List EdM) (rest : List Pc) (r : ReM) (v : Value) (H' : Heap) : Prop where
  ex : ∃ (p q n' : Nat) (es' : List EdM) (a' : Option Addr) (c' : Nat), v = .tuple #[.int .i64 (p : Int), .int .i64 (q : Int)] ∧ p ≤ 1000000 ∧ q ≤ 1000000 ∧ n ≤ n' ∧ n' ≤ n + 2 * r.nodes ∧ es'.length ≤ es.length + 4 * r.nodes ∧ StB B H0 H' (bdP bb (er || !r.plain) n' a' c' es' rest)
end Go.Proofs.YtlnmhfhdjnenoaaGreatDoor
/- The document's With, Build over trees without signs; the law NfaLarge: its walk. -/
set_option linter.unusedVariables false
set_option linter.unusedSimpArgs false
set_option maxRecDepth 100000
namespace Go.Proofs.YtlnmhfhdjnenoaaGreatDoor
open Go.VC
abbrev nfZ : List Value := [.int .i64 0, .int .i64 0, .int .i64 0, .slice none 0 0]
theorem nf_rng {r : ReM} (hpl : r.plain = true) (hn : r.nodes ≤ 2000) : (nfaOf r).Rng ∧ (nfaOf r).edges.length ≤ 1048576 := by
  have hst := stM_nodes r
  have hin := bldM_in r hpl 0
  have hlen := bldM_len r hpl 0
  refine ⟨⟨inI64 (by omega), inI64 (by omega), inI64 (by omega)⟩, ?_⟩
  show (bldM r 0).2.2.length ≤ _
  omega
end Go.Proofs.YtlnmhfhdjnenoaaGreatDoor
/- nfa.Build and louperef04.Build over any tree: the walks. -/
set_option linter.unusedVariables false
set_option linter.unusedSimpArgs false
set_option maxRecDepth 100000
namespace Go.Proofs.YtlnmhfhdjnenoaaGreatDoor
open Go.VC
end Go.Proofs.YtlnmhfhdjnenoaaGreatDoor
/- The law NfaBuilds: its walk. -/
set_option linter.unusedVariables false
set_option linter.unusedSimpArgs false
set_option maxRecDepth 100000
namespace Go.Proofs.YtlnmhfhdjnenoaaGreatDoor
open Go.VC Go.Lib
theorem fi_z : (Tryz.prog.info? 27).bind (·.zero) = some (.agg (fiL 0 0).toArray) := by kernel_rfl
theorem ld_fi {H : Heap} {b c : Nat} {p : Int} (h : Blk H b 27 (fiL c p)) : Cells H b 0 (fiL c p) := h.cells (fun j v hv => by rw [Nat.zero_add]; exact hv)
end Go.Proofs.YtlnmhfhdjnenoaaGreatDoor
/- The law NfaMembers: its walk. (printed by mknme.py) -/
set_option linter.unusedVariables false
set_option linter.unusedSimpArgs false
set_option maxRecDepth 100000
namespace Go.Proofs.YtlnmhfhdjnenoaaGreatDoor
open Go.VC Go.Lib
set_option maxHeartbeats 16000000 in
theorem nfaMembers_p (s t : ByteArray) (H : Heap) (hts : t.size ≤ 1048576) (hE : EscH H) : Pure Tryz.prog 4 #[.string s, .string t] H (.bool true) := by
  refine FnOk.of_vc Tryz.func4 rfl (Tryz.call4 _) ?_
  (conv => whnf); refine pures (speaks04_p H) fun H1 ha1 => ?_
  have st1 := (St.nil H).call ha1
  (conv => whnf); refine VCall.mk (parse_c (t := s) (esc_agr hE hE.2 st1.old)) ?_
  rintro v H2 ⟨ha2, hPa⟩
  have st2 := st1.call ha2
  have hOk := parseM_ok s
  unfold PaAns at hPa
  cases hpm : parseM s with
  | inl e =>
    obtain ⟨c, p⟩ := e
    rw [hpm] at hPa hOk
    obtain ⟨k1, k2, k3, k4⟩ : ErOk s c p := hOk
    replace hPa : v = .tuple #[.nilIface, .agg (fiL c p).toArray] := hPa
    subst hPa
    (conv => whnf); refine valloc (.agg (fiL 0 0).toArray) (fiL 0 0) fi_z rfl ?_
    intro q4 H3 hq3 hs3 hb3 ha3
    have st3 := st2.box hq3 hs3 hb3 ha3
    (conv => whnf); refine stNB (cs := fiL c p) st3 0 rfl rfl (Nat.le_refl _) rfl fun H4 st4 => ?_
    have e4 : splice (fiL 0 0) 0 (fiL c p) = fiL c p := splAll rfl
    rw [e4] at st4
    (conv => whnf); refine VCall.mk (dparse_c s H4) ?_
    rintro v5 H5 ⟨ha5, hPd⟩
    have st5 := st4.call ha5
    unfold PdAns at hPd
    rw [hpm] at hPd
    replace hPd : v5 = .tuple #[.agg reZ.toArray, .int .i64 (c : Int), .int .i64 p] := hPd
    subst hPd
    (conv => whnf); refine valloc _ reZ re_z rfl ?_
    intro q5 H6 hq6 hs6 hb6 ha6
    have st6 := st5.box hq6 hs6 hb6 ha6
    (conv => whnf); refine stNB (cs := reZ) st6 1 rfl rfl (Nat.le_refl _) rfl fun H7 st7 => ?_
    (conv => whnf); refine ldN (cs := fiL c p) ag27 (ld_fi (st7.blk 0 rfl)) trivial ?_
    (conv => whnf); refine vbuildS Tryz.underlying27 rfl _ fi_z (fiL 0 0) rfl ?_
    have hple := parseM_pl hpm
    have hpr : inK .i64 p := num_in (by unfold NumOk; omega)
    (conv => whnf); refine fi_eq (c := c) (p := p) (c' := 0) (p' := 0) (by omega) hpr (by decide) (inI64 (x := 0) (by decide)) ?_
    rw [decide_eq_false (show ¬ (c = 0 ∧ p = 0) from fun h => k1 h.1)]
    have d1 : ((c : Int) == 0) = false := beq_eq_false_iff_ne.2 (by omega)
    have d2 : ((c : Int) != 0) = true := bne_iff_ne.2 (by omega)
    (conv => whnf); rw [d1]
    (conv => whnf); refine bneq_b Tryz.underlying4 ?_
    (conv => whnf); rw [d2]
    (conv => whnf)
    exact ⟨rfl, st7.old⟩
  | inr r =>
    rw [hpm] at hPa hOk
    have hn : r.nodes ≤ 2000 := hOk
    replace hPa : v = .tuple #[nodeV r, .agg (fiL 0 0).toArray] := hPa
    subst hPa
    obtain ⟨T1, v1, e1⟩ := nodeV_if r
    (conv => whnf); refine valloc (.agg (fiL 0 0).toArray) (fiL 0 0) fi_z rfl ?_
    intro q4 H3 hq3 hs3 hb3 ha3
    have st3 := st2.box hq3 hs3 hb3 ha3
    (conv => whnf); refine stNB (cs := fiL 0 0) st3 0 rfl rfl (Nat.le_refl _) rfl fun H4 st4 => ?_
    have e4 : splice (fiL 0 0) 0 (fiL 0 0) = fiL 0 0 := splAll rfl
    rw [e4] at st4
    (conv => whnf); refine VCall.mk (dparse_c s H4) ?_
    rintro v5 H5 ⟨ha5, hPd⟩
    unfold PdAns at hPd
    rw [hpm] at hPd
    obtain ⟨ns, na, nc, root, rfl, hT, hnl, hNs, hSl⟩ := hPd
    obtain ⟨na', nc', e5, st5⟩ := st4.got ha5 hSl
    injection e5 with e51 e52 e53
    subst e51; subst e53
    (conv => whnf); refine valloc _ reZ re_z rfl ?_
    intro q5 H6 hq6 hs6 hb6 ha6
    have st6 := st5.box hq6 hs6 hb6 ha6
    (conv => whnf); refine stNB (cs := reL (.slice na ns.length nc) (root : Int)) st6 2 rfl rfl (Nat.le_refl _) rfl fun H7 st7 => ?_
    rw [splAll (show (reL (.slice na ns.length nc) (root : Int)).length = reZ.length from rfl)] at st7
    (conv => whnf); refine ldN (cs := fiL 0 0) ag27 (ld_fi (st7.blk 0 rfl)) trivial ?_
    (conv => whnf); refine vbuildS Tryz.underlying27 rfl _ fi_z (fiL 0 0) rfl ?_
    (conv => whnf); refine fi_eq (c := 0) (p := 0) (c' := 0) (p' := 0) (by decide) (inI64 (x := 0) (by decide)) (by decide) (inI64 (x := 0) (by decide)) ?_
    rw [decide_eq_true (show (0 : Nat) = 0 ∧ (0 : Int) = 0 from ⟨rfl, rfl⟩)]
    (conv => whnf)
    (conv => whnf); refine bneq_b Tryz.underlying4 ?_
    (conv => whnf); try (refine VSeq.run ?_)
    (conv => whnf); refine re_load (by omega) (st7.blk 2 rfl) ag32 trivial (st7.view 1 rfl) fun v8 hv8 => ?_
    (conv => whnf); refine pures (plain2_p (fun k hk => hk) hv8) fun H8 ha8 => ?_
    have st8 := st7.call ha8
    rw [plain_all hT hNs]
    cases hpl : r.plain with
    | false =>
      (conv => whnf)
      exact ⟨rfl, st8.old⟩
    | true =>
      obtain ⟨hrng, hel⟩ := nf_rng hpl hn
      (conv => whnf); refine VCall.mk (build_c r hpl (by omega) H8) ?_
      rintro v9 H9 ⟨ha9, hv⟩
      rw [if_neg (by omega)] at hv
      obtain ⟨ea, ec, rfl, hown⟩ := hv
      obtain ⟨ea', ec', e9, st9⟩ := st8.got ha9 hown
      injection e9 with e91 e92 e93
      subst e91; subst e93
      (conv => whnf); refine valloc _ nfZ nfa_z rfl ?_
      intro y H10 hy hs10 hb10 ha10
      have st10 := st9.box hy hs10 hb10 ha10
      (conv => whnf); refine stNB (cs := nfL (nfaOf r) (.slice ea (nfaOf r).edges.length ec)) st10 4 rfl rfl (Nat.le_refl _) rfl fun H11 st11 => ?_
      rw [splice_all (show (nfL (nfaOf r) (.slice ea (nfaOf r).edges.length ec)).length = nfZ.length from rfl)] at st11
      have hb4 := st11.blk 4 rfl
      have hb2 := st11.blk 2 rfl
      (conv => whnf); refine VDraw.heldG (Old H11) [] (sq [0,1,2,3,4,6,7] (.f 5 (.f 8 (sq [9,10] (.f 11 .e))))) rfl (by kernel_rfl) ?_
      (conv => whnf); refine nf_load hrng hel hb4 ag37 hb4.lt (st11.view 3 rfl) fun v12 hv12 => ?_
      (conv => whnf); refine re_load (by omega) hb2 ag32 hb2.lt (st11.view 1 rfl) fun v13 hv13 => ?_
      (conv => whnf); refine pures (accepts_n (fun k hk => hk) hv12 (by unfold maxLen; omega)) fun H12 ha12 => ?_
      refine ⟨ha12, ?_⟩
      (conv => whnf); refine pures (member_p (fun k hk => old_lt ha12 hk) (hv13.frame ha12) hT (by omega)) fun H13 ha13 => ?_
      have h13 : Agr (Old H11) H11 H13 := ha12.trans (ha13.mono fun k hk => old_lt ha12 hk)
      refine ⟨h13, ?_⟩
      have key : accN (nfaOf r) (byN t) = memB (byN t) r := Bool.eq_iff_iff.2 ((nfaOf_acc hpl (by have := stM_nodes r; omega) (byN t)).trans (memB_iff (byN t) r).symm)
      (conv => whnf); refine beq_b Tryz.underlying4 ?_
      (conv => whnf)
      refine ⟨h13, ?_⟩
      (conv => whnf)
      exact ⟨by rw [key, beq_self_eq_true], (st11.call h13).old⟩
theorem nfaMembers_q (s t : ByteArray) (S : Nat → Prop) (H : Heap) (hs : s.size ≤ 1048576) (ht : t.size ≤ 1048576) (hE : EscH H) : Pure Tryz.prog 4 #[.string s, .string t] H (.bool true) := nfaMembers_p s t H ht hE
end Go.Proofs.YtlnmhfhdjnenoaaGreatDoor
/- The table of escapes, out of a row's list; a world for the witness. -/
set_option linter.unusedVariables false
set_option linter.unusedSimpArgs false
set_option maxRecDepth 100000
namespace Go.Proofs.YtlnmhfhdjnenoaaGreatDoor
open Go.VC Go.Lib
open Go.ChangeShapes Go.WideShapes Go.ChangeAt Go.RowKit
theorem esc_g : Tryz.prog.globalNamed "loupe/class.escapes" = some 0 := by kernel_rfl
theorem esc_gt : (Tryz.prog.globals[0]?).map (·.type) = some 189 := by kernel_rfl
theorem esc_c : Tryz.prog.cellsOf 189 = 6 := by kernel_rfl
theorem esc_c2 : Tryz.prog.cellsOf 188 = 2 := by kernel_rfl
theorem esc_u : Tryz.prog.underlying 189 = some (.array 3 188) := by kernel_rfl
theorem pair_u8 {enc : TypeId × Value → Unit} {w : World} {base : Nat} {sp : Nat → Bool} {held : Bool} {fuel : Nat} {cs : List Value} {a b : Int} {p : List MemPlace}
    (h : DataW.trod enc Tryz.prog w base sp held fuel 188 cs = some (.agg [.lit (.int .u8 a), .lit (.int .u8 b)], p)) : cs = [.int .u8 a, .int .u8 b] := by
  obtain ⟨y0, y1, m, e, hl, h0, h1⟩ := trod_struct2 Tryz.underlying188 h
  obtain ⟨n0, e0, r0, -⟩ := DataW.trod_int Tryz.underlying5 h0
  obtain ⟨n1, e1, r1, -⟩ := DataW.trod_int Tryz.underlying5 h1
  subst r0; subst r1
  injection e with e2 e3
  injection e2 with e2
  simp only [List.cons.injEq, DataW.lit.injEq, Lit.int.injEq, true_and, and_true] at e2
  rw [esc_c2] at hl
  match cs, hl with
  | [x, y], _ =>
    have e0 : [x] = [Value.int .u8 n0] := e0
    have e1 : [y] = [Value.int .u8 n1] := e1
    injection e0 with e0
    injection e1 with e1
    rw [e0, e1, ← e2.1, ← e2.2]
theorem esc_cells {enc : TypeId × Value → Unit} {w : World} {base : Nat} {sp : Nat → Bool} {held : Bool} {fuel : Nat} {cs : List Value} {p : List MemPlace}
    (h : DataW.trod enc Tryz.prog w base sp held fuel 189 cs = some (Rows.laid_loupe_class_escapes, p)) : cs = escL := by
  obtain ⟨xs, m, -, e, hl, hx, hi⟩ := DataW.trod_array esc_u h
  rw [esc_c] at hl
  injection e with e1 e2
  have e1 : (Rows.laid_loupe_class_escapes : DataW Unit) = .agg (xs.map (·.1)) := e1
  unfold Rows.laid_loupe_class_escapes at e1
  injection e1 with e1
  match xs, hx with
  | [x0, x1, x2], _ =>
    simp only [List.map_cons, List.map_nil, List.cons.injEq, and_true] at e1
    obtain ⟨r0, r1, r2⟩ := e1
    have h0 := hi 0 (by decide)
    have h1 := hi 1 (by decide)
    have h2 := hi 2 (by decide)
    rw [esc_c2] at h0 h1 h2
    have k0 := pair_u8 (p := x0.2) (h0.trans (by rw [r0]; rfl))
    have k1 := pair_u8 (p := x1.2) (h1.trans (by rw [r1]; rfl))
    have k2 := pair_u8 (p := x2.2) (h2.trans (by rw [r2]; rfl))
    match cs, hl with
    | [a, b, c, d, e, f], _ =>
      have k0 : [a, b] = _ := k0
      have k1 : [c, d] = _ := k1
      have k2 : [e, f] = _ := k2
      simp only [List.cons.injEq, and_true] at k0 k1 k2
      obtain ⟨rfl, rfl⟩ := k0
      obtain ⟨rfl, rfl⟩ := k1
      obtain ⟨rfl, rfl⟩ := k2
      rfl
theorem esc_of_laid {W : World} (h : laidMetH Tryz.prog [("loupe/class.escapes", Rows.laid_loupe_class_escapes)] W) : EscH W.heap := by
  obtain ⟨ps, ⟨g0, t0, cs0, f0, p0, q0, hg0, ht0, hv0, hd0, -, -⟩, -⟩ := h
  obtain rfl := Option.some.inj (esc_g.symm.trans hg0)
  obtain rfl := Option.some.inj (esc_gt.symm.trans ht0)
  have hc := esc_cells hd0
  refine ⟨fun j v hj => ?_, ?_⟩
  · have := World.var?_cell esc_g hv0 j
    rw [Nat.zero_add]
    have h2 : cs0[j]? = some v := by
      rw [← Array.getElem?_toList, hc]
      exact hj
    rw [h2] at this
    exact this
  · unfold World.var? at hv0
    rw [esc_g] at hv0
    apply Classical.byContradiction
    intro hn
    simp only [Option.bind_some] at hv0
    rw [Array.getElem?_eq_none (by omega)] at hv0
    simp at hv0
def putEsc (vs : Array Value) : Obj → Obj
  | .cells _ t frozen => .cells vs t frozen
  | o => o
noncomputable def laidW4 (os : Os) : World :=
  { World.holding Tryz.prog os ⟨#[], #[], []⟩ with heap := (World.holding Tryz.prog os ⟨#[], #[], []⟩).heap.modify 0 (putEsc escL.toArray) }
end Go.Proofs.YtlnmhfhdjnenoaaGreatDoor
/- Reading arguments: what the form says of them, as1 typed views. -/
set_option linter.unusedVariables false
set_option linter.unusedSimpArgs false
namespace Go.VC
open Go.Proofs.YtlnmhfhdjnenoaaGreatDoor.Rows (uptoBulk uptoBulkAll)
def InW (W : World) (k : Nat) : Prop := k < W.heap.size
/-- How many values a list bears. -/
def szL {α : Type} (sz : α → Nat) : List α → Nat
  | [] => 1
  | x :: xs => sz x + szL sz xs
theorem szL_snoc {α : Type} (sz : α → Nat) (x : α) : ∀ xs : List α, szL sz (xs ++ [x]) = szL sz xs + sz x
  | [] => by simp [szL]; omega
  | y :: ys => by simp only [List.cons_append, szL, szL_snoc sz x ys]; omega
theorem szL_len {α : Type} {sz : α → Nat} (h : ∀ x, 1 ≤ sz x) : ∀ xs : List α, xs.length + 1 ≤ szL sz xs
  | [] => Nat.le_refl _
  | y :: ys => by have := szL_len h ys; have := h y; simp only [List.length_cons, szL]; omega
section
variable {H : Type} {enc : TypeId × Value → H} {P : Program} {W : World} {t e : TypeId}
end

end Go.VC
/- Sets as1 arguments. -/
set_option linter.unusedVariables false
set_option linter.unusedSimpArgs false
set_option maxRecDepth 100000
namespace Go.Proofs.YtlnmhfhdjnenoaaGreatDoor
open Go.VC Go
end Go.Proofs.YtlnmhfhdjnenoaaGreatDoor
/- Closing: a law that returns true and leaves all that was there as1 it was. -/
set_option linter.unusedVariables false
namespace Go.VC
open Go.ChangeShapes Go.WideShapes Go.ChangeAt Go.RowKit

theorem kept_of_agr {W W' : World} {may : MemPlace → Prop} (he : Env W W') (h : Agr (Old W.heap) W.heap W'.heap) : W.keptBut W' may := by
  refine ⟨he.os, he.output, fun i hi => ?_⟩
  rw [h i hi]
  split <;> simp_all
theorem frozen_of_agr {W W' : World} (h : Agr (Old W.heap) W.heap W'.heap) (a : Addr) (ha : a.block < W.heap.size) : W'.frozen? a = W.frozen? a := by
  unfold World.frozen?
  rw [h a.block ha]
theorem sameAt_of_agr {W W' : World} (h : Agr (Old W.heap) W.heap W'.heap) : ∀ p : MemPlace, p.block < W.heap.size → W.sameAt W' p
  | .cell b o, hb => by
    show W'.cell? ⟨b, o, none⟩ = W.cell? ⟨b, o, none⟩
    rw [cell_w, cell_w]
    exact cell_eq (h b hb)
  | .map b, hb => h b hb
section
variable {H : Type} {enc : TypeId × Value → H} {P : Program}
theorem all_stay {W W' : World} {sp : Nat → Bool} (hl : laidOutB P = true) (ha : Agr (Old W.heap) W.heap W'.heap) : ∀ {ts : List TypeId} {vs : List Value} {ds : List (DataW H)} {ps : List MemPlace}, (∀ t ∈ ts, P.readableRec t = true ∧ t < P.types.size) →
    DataW.TrodAll enc P W 0 (fun _ => true) true ts vs ds ps → (∀ p ∈ ps, p.block < W.heap.size) → (∀ p ∈ ps, sp p.block = true) → DataW.TrodAll enc P W' 0 sp true ts vs ds ps
  | [], vs, ds, ps, _, h, _, _ => by
    obtain ⟨rfl, rfl, rfl⟩ := trodAll_nil h
    exact trodAll_mk0
  | t :: ts, vs, ds, ps, ht, h, hlt, hsp => by
    obtain ⟨v, vs', d, ds', p, q, rfl, rfl, rfl, h1, h2⟩ := trodAll_cons h
    have ht0 := ht t List.mem_cons_self
    exact trodAll_cons_mk (WideElems.Trod_stays hl ht0.1 ht0.2 h1 (fun x hx => sameAt_of_agr ha x (hlt x (List.mem_append_left _ hx))) fun x hx => hsp x (List.mem_append_left _ hx))
      (all_stay hl ha (fun x hx => ht x (List.mem_cons_of_mem _ hx)) h2 (fun x hx => hlt x (List.mem_append_right _ hx)) fun x hx => hsp x (List.mem_append_right _ hx))
theorem trod_b {w : World} {base : Nat} {sp : Nat → Bool} {hd : Bool} {t : TypeId} {b : Bool} (h : P.underlying t = some .bool) : DataW.Trod enc P w base sp hd t (.bool b) (.lit (.bool b)) [] := ⟨1, by simp [DataW.trod, Value.cells, h]⟩
/-- The law has returned true; what was there is as1 it was. -/
theorem post_true {f : Func} {s : ChangeSpec} {apart fresh handsOn again : Bool} {W W' : World} {args : Array Value} {ds gs : List (DataW H)} {before : List MemPlace} {bt : TypeId}
    (hW : DataW.Whole enc P f.params.toList s.vars apart W args.toList ds gs before) (hv : s.vars = []) (hfn : (s.fn H (ds ++ gs)).results = [.lit (.bool true)] ∧ (s.fn H (ds ++ gs)).args = ds ∧ (s.fn H (ds ++ gs)).vars = [])
    (hl : laidOutB P = true) (hp : f.params.toList.all (fun t => P.readableRec t && decide (t < P.types.size)) = true) (hr : f.resultTypes = #[bt]) (hu : P.underlying bt = some .bool)
    (he : Env W W') (ha : Agr (Old W.heap) W.heap W'.heap) : s.post enc P f apart fresh handsOn again W args (.bool true) W' := by
  have hlt := hW.lt
  have hW' := hW
  obtain ⟨pa, pv, hA, hV, hbe, hz, hn⟩ := hW
  rw [hv] at hV
  obtain ⟨rfl, rfl⟩ := trodVars_none hV
  rw [List.append_nil] at hbe
  subst hbe
  obtain ⟨hres, hargs, hvars⟩ := hfn
  have hk : W.keptBut W' (fun _ => False) := kept_of_agr he ha
  have hpp : ∀ t ∈ f.params.toList, P.readableRec t = true ∧ t < P.types.size := fun t ht => by
    have := List.all_eq_true.1 hp t ht
    simpa using this
  have hst : ∀ sp : Nat → Bool, (∀ p ∈ before, sp p.block = true) → DataW.TrodAll enc P W' 0 sp true f.params.toList args.toList (s.fn H (ds ++ [])).args before := fun sp hsp => by
    rw [hargs]; exact all_stay hl ha hpp hA hlt hsp
  have hrs : ∀ (b : Nat) (sp : Nat → Bool) (hd : Bool), DataW.TrodAll enc P W' b sp hd f.resultTypes.toList ((Value.bool true).resultList f.resultTypes.size) (s.fn H (ds ++ [])).results [] := fun b sp hd => by
    rw [hres, hr]; exact trodAll_mk1 (trod_b hu)
  have hvs : ∀ sp : Nat → Bool, DataW.TrodVars enc P W' sp s.vars (s.fn H (ds ++ [])).vars [] := fun sp => by
    rw [hvars, hv]; rfl
  have hok : ∀ (j : Nat) (t : TypeId) (r : Value), f.resultTypes[j]? = some t → ((Value.bool true).resultList f.resultTypes.size)[j]? = some r → Value.okWide P W' .any 0 t r := ok_one hr rfl (okWide_bool_mk hu true)
  refine ⟨ds, [], before, [], before, [], hW', hrs _ _ _, hst _ (fun p hp => decide_eq_true (hlt p hp)), hvs _, World.keptBut_mono (fun p hp => hp.elim) hk, fun _ => ?_⟩
  refine ⟨hok, _, _, ([] ++ before) ++ [], ⟨[] ++ before, [], trodAll_append (hst _ (fun _ _ => rfl)) (hrs _ _ _), hvs _, rfl, ?_, ?_⟩, ?_⟩
  · intro b off hp
    simp only [List.nil_append, List.append_nil] at hp
    rw [frozen_of_agr ha _ (hlt _ hp)]
    exact hz b off hp
  · intro hap
    have := hn hap
    simpa using this
  · intro p hp _
    simpa using hp
end

end Go.VC
/- A law's net, handed in. -/
set_option linter.unusedVariables false
set_option linter.unusedSimpArgs false
set_option maxRecDepth 100000
namespace Go.Proofs.YtlnmhfhdjnenoaaGreatDoor
open Go.VC Go
theorem own_ : ownKnob Tryz.prog.godebug = none := by kernel_rfl
theorem laid_ : laidOutB Tryz.prog = true := by kernel_rfl
theorem small_of {H : Type} {ds : List (DataW H)} (h : Rows.uptoSmall H ds = true) : Rows.uptoBulkAll ds ≤ 1048576 := by simpa [Rows.uptoSmall] using h
section
variable {H : Type} {enc : TypeId × Value → H} {W : World}
end
end Go.Proofs.YtlnmhfhdjnenoaaGreatDoor
