/- The game's rules: the walks. -/
import Derived.Test.YtkgmhkcncemmkaaPGam0
set_option linter.unusedVariables false
set_option linter.unusedSimpArgs false
set_option maxRecDepth 100000
namespace Go.Proofs.Ytkgmhkcncemmkaa
open Go.VC
attribute [local irreducible] mRun gRun atRun
/-- A game of two automata, as a value. -/
structure GameV (S : Nat → Prop) (H : Heap) (v : Value) (it : Bool) (A B : DM) : Prop where
  out : ∃ la lb : List Value, v = .agg (la ++ lb ++ [Value.bool it]).toArray ∧ DfaV S H (.agg la.toArray) A ∧ DfaV S H (.agg lb.toArray) B
theorem GameV.frame {S : Nat → Prop} {H H' : Heap} {v : Value} {it : Bool} {A B : DM} (h : GameV S H v it A B) (k : Agr S H H') : GameV S H' v it A B := by
  obtain ⟨la, lb, rfl, h1, h2⟩ := h
  exact ⟨la, lb, rfl, h1.frame k, h2.frame k⟩
theorem dfa_len {S : Nat → Prop} {H : Heap} {la : List Value} {D : DM} (h : DfaV S H (.agg la.toArray) D) : la.length = 259 ∧ ∃ fa fc, la[258]? = some (.slice fa D.final.length fc) ∧ SlD tBool S H fa fc D.final := by
  obtain ⟨hl, ra, rc, na, nc, fa, fc, e, h1, h2, h3⟩ := h
  injection e with e
  have e : la = dfaL D.cell (.slice ra D.reps.length rc) (.slice na D.next.length nc) (.slice fa D.final.length fc) := by simpa using e
  subst e
  exact ⟨dfaL_len hl, fa, fc, dfaL_258 hl, h3⟩
theorem fin_ix {S S0 : Nat → Prop} {H : Heap} {fa : Option Addr} {fc : Nat} {D : DM} {x : Int} {K : Value → Prop} (h : SlD tBool S H fa fc D.final) (h0 : 0 ≤ x) (h1 : x < D.final.length) (hk : ∀ b o, S b → VC.cell H b o = some (.bool (finD D x)) → K (.pointer (some ⟨b, o, none⟩))) :
    VDet Try.prog (Instr.indexAt 24 (.slice fa D.final.length fc) (.int .i64 x)) S0 H K := by
  obtain ⟨n, rfl⟩ := Int.eq_ofNat_of_zero_le h0
  obtain ⟨f, hf⟩ := get_some (l := D.final) (k := n) (by omega)
  refine ixr (i := n) sl24 h hf rfl ?_
  rintro b o cs hS hc rfl
  refine hk b o hS ?_
  rw [hc.one]
  simp [finD, hf]
/-- In a box: where its parts lie. -/
structure GameB (S : Nat → Prop) (H : Heap) (p : Nat) (it : Bool) (A B : DM) (la lb : List Value) : Prop where
  blk : Blk H p 123 (la ++ lb ++ [Value.bool it])
  a : DfaV S H (.agg la.toArray) A
  b : DfaV S H (.agg lb.toArray) B
theorem GameB.frame {S S' : Nat → Prop} {H H' : Heap} {p : Nat} {it : Bool} {A B : DM} {la lb : List Value} (h : GameB S H p it A B la lb) (k : Agr S' H H') (hp : S' p) (hs : ∀ k, S k → S' k) : GameB S H' p it A B la lb :=
  ⟨h.blk.agr k hp, h.a.frame (k.mono hs), h.b.frame (k.mono hs)⟩
section
variable {S S0 : Nat → Prop} {H : Heap} {p : Nat} {it : Bool} {A B : DM} {la lb : List Value} {K : Value → Prop}
theorem GameB.lda (h : GameB S H p it A B la lb) (hp : S0 p) (k : K (.agg la.toArray)) : VDet Try.prog (Instr.loadAt 38 (.pointer (some ⟨p, 0 + 0, none⟩))) S0 H K := by
  have hl := (dfa_len h.a).1
  refine ldN (cs := la) (by rw [hl]; exact ag38) (h.blk.cells fun j v hv => ?_) hp k
  rw [show 0 + 0 + j = j by omega, List.append_assoc, List.getElem?_append_left (List.getElem?_eq_some_iff.1 hv).1]; exact hv
theorem GameB.ldb (h : GameB S H p it A B la lb) (hp : S0 p) (k : K (.agg lb.toArray)) : VDet Try.prog (Instr.loadAt 38 (.pointer (some ⟨p, 0 + 259, none⟩))) S0 H K := by
  have hl := (dfa_len h.a).1
  have hl2 := (dfa_len h.b).1
  refine ldN (cs := lb) (by rw [hl2]; exact ag38) (h.blk.cells fun j v hv => ?_) hp k
  have hj := (List.getElem?_eq_some_iff.1 hv).1
  rw [List.append_assoc, List.getElem?_append_right (by omega), List.getElem?_append_left (by omega), show 0 + 259 + j - la.length = j by omega]; exact hv
theorem GameB.ldi (h : GameB S H p it A B la lb) (hp : S0 p) (k : K (.bool it)) : VDet Try.prog (Instr.loadAt 4 (.pointer (some ⟨p, 0 + 518, none⟩))) S0 H K := by
  have hl := (dfa_len h.a).1
  have hl2 := (dfa_len h.b).1
  refine ld1 ct4 ?_ hp k
  rw [h.blk.cell, List.getElem?_append_right (by simp; omega), show 0 + 518 - (la ++ lb).length = 0 by simp; omega]; rfl
/-- The final states of a, of b. -/
theorem GameB.fa_ (h : GameB S H p it A B la lb) (hp : S0 p) (k : ∀ fa fc, SlD tBool S H fa fc A.final → K (.slice fa A.final.length fc)) : VDet Try.prog (Instr.loadAt 24 (.pointer (some ⟨p, 0 + 0 + 258, none⟩))) S0 H K := by
  obtain ⟨hl, fa, fc, hf, hs⟩ := dfa_len h.a
  refine ld1 ct24 ?_ hp (k fa fc hs)
  rw [h.blk.cell, List.append_assoc, List.getElem?_append_left (by omega)]; exact hf
theorem GameB.fb_ (h : GameB S H p it A B la lb) (hp : S0 p) (k : ∀ fa fc, SlD tBool S H fa fc B.final → K (.slice fa B.final.length fc)) : VDet Try.prog (Instr.loadAt 24 (.pointer (some ⟨p, 0 + 259 + 258, none⟩))) S0 H K := by
  have hl0 := (dfa_len h.a).1
  obtain ⟨hl, fa, fc, hf, hs⟩ := dfa_len h.b
  refine ld1 ct24 ?_ hp (k fa fc hs)
  rw [h.blk.cell, List.append_assoc, List.getElem?_append_right (by omega), List.getElem?_append_left (by omega), show 0 + 259 + 258 - la.length = 258 by omega]; exact hf
end
theorem spot_z : (Try.prog.info? 159).bind (·.zero) = some (ndV root) := by kernel_rfl
theorem sdx0 {H : Heap} {p : Nat} {n : Nd} (h : Blk H p 159 (ndL n)) : VC.cell H p (0 + 0) = some (.int .i64 n.s) := by rw [h.cell]; rfl
theorem sdx1 {H : Heap} {p : Nat} {n : Nd} (h : Blk H p 159 (ndL n)) : VC.cell H p (0 + 1) = some (.int .i64 n.x) := by rw [h.cell]; rfl
theorem sdx2 {H : Heap} {p : Nat} {n : Nd} (h : Blk H p 159 (ndL n)) : VC.cell H p (0 + 2) = some (.int .i64 n.y) := by rw [h.cell]; rfl
/-- The graph of a game. -/
def gameG (it : Bool) (a b : Option AM) : Gr := if it then iterG a else catG a b
def GameR (it : Bool) (a b : Option AM) (n : Nd) : Prop := if it then IterR a n else CatR a b n
/-- What the walks know of the two automata. -/
structure GameO (it : Bool) (a b : Option AM) (A B : DM) : Prop where
  ha : Both a A
  hb : Both b B
  same : it = true → a = b
  sa : StepOk a
  sb : StepOk b
set_option maxHeartbeats 16000000 in
theorem gnext_c {S : Nat → Prop} {H : Heap} {v : Value} {it : Bool} {a b : Option AM} {A B : DM} (hS : ∀ k, S k → k < H.size) (hv : GameV S H v it A B) (ho : GameO it a b A B) (n : Nd) (hn : GameR it a b n) {c : Nat} (hc : c < 256) :
    FnOk Try.prog 88 #[v, ndV n, .int .u8 (c : Int)] H fun v H' => Agr (Old H) H H' ∧ SlO tNd none_ H' H.size 159 v ((gameG it a b).next n c) := by
  obtain ⟨la, lb, rfl, da, db⟩ := hv
  obtain ⟨⟨aok, an, astep, afin, -⟩, ⟨bok, bn, bstep, bfin, -⟩, hsame, hsa, hsb⟩ := ho
  have afl := aok.fl
  have bfl := bok.fl
  refine FnOk.of_vc Try.func88 rfl (Try.call88 _) ?_
  have hup : ∀ {H' : Heap} {ps : List Pc}, St H H' ps → ∀ k, S k → k < H'.size := fun st k hk => st.up (hS k hk)
  (conv => whnf); refine vbox (la ++ lb ++ [Value.bool it]) rfl ?_
  intro p1 H1 hp1 hs1 hb1 ha1
  have st1 := (St.nil H).box hp1 hs1 hb1 ha1
  (conv => whnf); refine vbox (ndL n) rfl ?_
  intro p2 H2 hp2 hs2 hb2 ha2
  have st2 := st1.box hp2 hs2 hb2 ha2
  have hG : ∀ {H' : Heap} {ps : List Pc} (st : St H H' ps), ps[0]? = some (pB 123 p1 (la ++ lb ++ [Value.bool it])) → GameB S H' p1 it A B la lb := fun st hp => ⟨st.blk 0 hp, da.frame (st.old.mono hS), db.frame (st.old.mono hS)⟩
  have g2 := hG st2 rfl
  have q2 := st2.blk 1 rfl
  (conv => whnf); refine VDraw.held (Old H2) 13 (sq [0,1,2,3,4,6,7,8,9,10] (.f 5 (.f 11 (sq [12] (.f 13 .e))))) rfl (by kernel_rfl) ?_
  (conv => whnf); refine fa fl123_0 ?_
  (conv => whnf); refine g2.lda g2.blk.lt ?_
  (conv => whnf); refine fa fl159_1 ?_
  (conv => whnf); refine ld1 ct3 (sdx1 q2) q2.lt ?_
  (conv => whnf); refine fa fl123_0 ?_
  (conv => whnf); refine g2.lda g2.blk.lt ?_
  (conv => whnf); refine fa fl159_2 ?_
  (conv => whnf); refine ld1 ct3 (sdx2 q2) q2.lt ?_
  (conv => whnf); refine pures (refstep_p (hup st2) g2.a aok hc) fun H3 ha3 => ?_
  have st3 := st2.call ha3
  refine ⟨ha3, ?_⟩
  (conv => whnf); refine pures (refstep_p (hup st3) (hG st3 rfl).a aok hc) fun H4 ha4 => ?_
  have st4 := st3.call ha4
  have ha24 : Agr (Old H2) H2 H4 := ha3.trans (ha4.mono fun k hk => old_lt ha3 hk)
  refine ⟨ha24, ?_⟩
  rw [← astep _ c hc, ← astep _ c hc]
  have q4 := st4.blk 1 rfl
  (conv => whnf); refine fa fl159_0 ?_
  (conv => whnf); refine ld1 ct3 (sdx0 q4) trivial ?_
  have st5 := st4.nils tNd 159
  by_cases h0 : n.s = 0
  · have d0 : (n.s == 0) = true := by rw [h0]; rfl
    have hx : inA a n.x := by
      unfold GameR at hn
      split at hn
      · rcases hn with ⟨-, h, -⟩ | ⟨h, -⟩
        · exact h
        · omega
      · rcases hn with ⟨-, h, -⟩ | ⟨h, -⟩ | ⟨h, -⟩
        · exact h
        · omega
        · omega
    have hN : (gameG it a b).next n c = [⟨0, stepM a n.x c, 0⟩] ++ (if finM a n.x then [⟨1, stepM b 0 c, stepM a n.x c⟩] else []) := by
      unfold gameG
      cases it with
      | true =>
        obtain rfl := hsame rfl
        show iterNext a n c = _
        unfold iterNext
        rw [if_pos h0]; rfl
      | false =>
        show catNext a b n c = _
        unfold catNext
        rw [if_pos h0]; rfl
    rw [hN]
    (conv => whnf); rw [d0]
    (conv => whnf); refine vbuildS Try.underlying159 rfl (ndV root) spot_z (ndL ⟨0, stepM a n.x c, 0⟩) rfl ?_
    (conv => whnf); refine vbuild1 sl153 (ndL ⟨0, stepM a n.x c, 0⟩) rfl rfl (by decide) (by decide) ?_
    intro q6 H6b hq6 hs6 hb6 ha6
    have st6b := st5.skip hq6 ha6
    (conv => whnf); refine appG (ys := [⟨0, stepM a n.x c, 0⟩]) (ds := ndL ⟨0, stepM a n.x c, 0⟩) st6b 2 sl153 rfl (hb6.cells fun j v hv => by rw [Nat.zero_add]; exact hv) (nodesR _ _) rfl (by simp [ndL, Value.oneCell']) (by simp [maxLen]) (by simp) fun a6 c6 H6 st6 _ => ?_
    have g6 := hG st6 rfl
    have q6 := st6.blk 1 rfl
    (conv => whnf); refine VSeq.run ?_
    (conv => whnf); refine fa fl123_0 ?_
    (conv => whnf); refine fa fl38_3 ?_
    (conv => whnf); refine g6.fa_ trivial fun fa fc hfs => ?_
    (conv => whnf); refine VC.fa fl159_1 ?_
    (conv => whnf); refine ld1 ct3 (sdx1 q6) trivial ?_
    (conv => whnf); refine fin_ix hfs hx.1 (by have := hx.2; omega) fun b7 o7 hS7 hc7 => ?_
    (conv => whnf); refine ld1 ct4 hc7 trivial ?_
    rw [← afin]
    cases hf : finM a n.x with
    | false =>
      (conv => whnf)
      exact ⟨st6.old, by have := St.own st6 2 rfl; simpa using this⟩
    | true =>
      (conv => whnf); refine VC.fa fl123_1 ?_
      (conv => whnf); refine g6.ldb trivial ?_
      (conv => whnf); refine pures (refstep_p (q := 0) (hup st6) g6.b bok hc) fun H8 ha8 => ?_
      have st8 := st6.call ha8
      rw [← bstep _ c hc]
      (conv => whnf); refine vbuildS Try.underlying159 rfl (ndV root) spot_z (ndL ⟨1, stepM b 0 c, stepM a n.x c⟩) rfl ?_
      (conv => whnf); refine vbuild1 sl153 (ndL ⟨1, stepM b 0 c, stepM a n.x c⟩) rfl rfl (by decide) (by decide) ?_
      intro q9 H9b hq9 hs9 hb9 ha9
      have st9b := st8.skip hq9 ha9
      (conv => whnf); refine appG (ys := [⟨1, stepM b 0 c, stepM a n.x c⟩]) (ds := ndL ⟨1, stepM b 0 c, stepM a n.x c⟩) st9b 2 sl153 rfl (hb9.cells fun j v hv => by rw [Nat.zero_add]; exact hv) (nodesR _ _) rfl (by simp [ndL, Value.oneCell']) (by simp [maxLen]) (by simp) fun a9 c9 H9 st9 _ => ?_
      (conv => whnf)
      exact ⟨st9.old, by have := St.own st9 2 rfl; simpa using this⟩
  · have d0 : (n.s == 0) = false := beq_eq_false_iff_ne.2 h0
    have g4 := hG st4 rfl
    (conv => whnf); rw [d0]
    (conv => whnf); refine fa fl123_2 ?_
    (conv => whnf); refine g4.ldi trivial ?_
    cases it with
    | true =>
      obtain rfl := hsame rfl
      have hR : IterR a n := hn
      obtain ⟨hs1', hx, hy⟩ : n.s = 1 ∧ inA a n.x ∧ inA a n.y := by
        rcases hR with ⟨h, -⟩ | h
        · exact absurd h h0
        · exact h
      have hN : (gameG true a a).next n c = (moves a n.x c).flatMap fun x => pairs1 x (moves a n.y c) := by
        show iterNext a n c = _
        unfold iterNext pairs1
        rw [if_neg h0]
      rw [hN]
      have hx2 := moves_len (a := a) n.x c
      have hy2 := moves_len (a := a) n.y c
      (conv => whnf); refine vbuild1 sl36 [iv (stepM a n.x c)] rfl rfl (by decide) (by decide) ?_
      intro q6 H6 hq6 hs6 hb6 ha6
      have st6 := st4.new (T := tV) (n := 1) (xs := [iv (stepM a n.x c)]) hq6 hs6 hb6 ha6 (vone _ _) rfl (by decide)
      (conv => whnf); refine vbuild1 sl36 [iv (stepM a n.y c)] rfl rfl (by decide) (by decide) ?_
      intro q7 H7 hq7 hs7 hb7 ha7
      have st7 := st6.new (T := tV) (n := 1) (xs := [iv (stepM a n.y c)]) hq7 hs7 hb7 ha7 (vone _ _) rfl (by decide)
      have g7 := hG st7 rfl
      have r7 := st7.blk 1 rfl
      (conv => whnf); refine VSeq.cut [11] (fun x : Option Addr × Nat => match x with | (a', c') => [.slice a' (moves a n.x c).length c'])
        (fun x H8 => St H H8 [pB 123 p1 (la ++ lb ++ [Value.bool true]), pB 159 p2 (ndL n), pS tV 3 x.1 (moves a n.x c).length x.2 ((moves a n.x c).map iv), pS tV 3 (some ⟨q7, 0, none⟩) 1 1 [iv (stepM a n.y c)]]) ?_ ?_
      · (conv => whnf); refine fa fl123_0 ?_
        (conv => whnf); refine fa fl38_3 ?_
        (conv => whnf); refine g7.fa_ trivial fun fa fc hfs => ?_
        (conv => whnf); refine VC.fa fl159_1 ?_
        (conv => whnf); refine ld1 ct3 (sdx1 r7) trivial ?_
        (conv => whnf); refine fin_ix hfs hx.1 (by have := hx.2; omega) fun b8 o8 hS8 hc8 => ?_
        (conv => whnf); refine ld1 ct4 hc8 trivial ?_
        rw [← afin]
        cases hf : finM a n.x with
        | false =>
          have e : moves a n.x c = [stepM a n.x c] := by unfold moves; rw [hf]; rfl
          rw [e]
          (conv => whnf)
          exact ⟨rfl, (some ⟨q6, 0, none⟩, 1), rfl, st7⟩
        | true =>
          have e : moves a n.x c = [stepM a n.x c, stepM a 0 c] := by unfold moves; rw [hf]; rfl
          rw [e]
          (conv => whnf); refine VC.fa fl123_0 ?_
          (conv => whnf); refine g7.lda trivial ?_
          (conv => whnf); refine pures (refstep_p (q := 0) (hup st7) g7.a aok hc) fun H8 ha8 => ?_
          have st8 := st7.call ha8
          rw [← astep _ c hc]
          (conv => whnf); refine vbuild1 sl36 [iv (stepM a 0 c)] rfl rfl (by decide) (by decide) ?_
          intro q9 H9 hq9 hs9 hb9 ha9
          have st9 := st8.skip hq9 ha9
          (conv => whnf); refine appG (ys := [iv (stepM a 0 c)]) (ds := [iv (stepM a 0 c)]) st9 2 sl36 rfl (hb9.cells fun j v hv => by rw [Nat.zero_add]; exact hv) (vone _ _) rfl (by simp [iv, Value.oneCell']) (by simp only [List.length_singleton]; decide) (by simp only [List.length_singleton]; decide) fun a' c' H10 st10 _ => ?_
          (conv => whnf)
          exact ⟨rfl, (a', c'), rfl, st10⟩
      · rintro ⟨a8, c8⟩ H8 junk8 st8
        simp only at st8
        have g8 := hG st8 rfl
        have r8 := st8.blk 1 rfl
        (conv => whnf); refine VSeq.cut [12] (fun x : Option Addr × Nat => match x with | (a', c') => [.slice a' (moves a n.y c).length c'])
          (fun x H9 => St H H9 [pB 123 p1 (la ++ lb ++ [Value.bool true]), pB 159 p2 (ndL n), pS tV 3 a8 (moves a n.x c).length c8 ((moves a n.x c).map iv), pS tV 3 x.1 (moves a n.y c).length x.2 ((moves a n.y c).map iv)]) ?_ ?_
        · (conv => whnf); refine fa fl123_0 ?_
          (conv => whnf); refine fa fl38_3 ?_
          (conv => whnf); refine g8.fa_ trivial fun fa fc hfs => ?_
          (conv => whnf); refine VC.fa fl159_2 ?_
          (conv => whnf); refine ld1 ct3 (sdx2 r8) trivial ?_
          (conv => whnf); refine fin_ix hfs hy.1 (by have := hy.2; omega) fun b9 o9 hS9 hc9 => ?_
          (conv => whnf); refine ld1 ct4 hc9 trivial ?_
          rw [← afin]
          cases hf : finM a n.y with
          | false =>
            have e : moves a n.y c = [stepM a n.y c] := by unfold moves; rw [hf]; rfl
            rw [e]
            (conv => whnf)
            exact ⟨rfl, (some ⟨q7, 0, none⟩, 1), rfl, st8⟩
          | true =>
            have e : moves a n.y c = [stepM a n.y c, stepM a 0 c] := by unfold moves; rw [hf]; rfl
            rw [e]
            (conv => whnf); refine VC.fa fl123_0 ?_
            (conv => whnf); refine g8.lda trivial ?_
            (conv => whnf); refine pures (refstep_p (q := 0) (hup st8) g8.a aok hc) fun H9 ha9 => ?_
            have st9 := st8.call ha9
            rw [← astep _ c hc]
            (conv => whnf); refine vbuild1 sl36 [iv (stepM a 0 c)] rfl rfl (by decide) (by decide) ?_
            intro q10 H10 hq10 hs10 hb10 ha10
            have st10 := st9.skip hq10 ha10
            (conv => whnf); refine appG (ys := [iv (stepM a 0 c)]) (ds := [iv (stepM a 0 c)]) st10 3 sl36 rfl (hb10.cells fun j v hv => by rw [Nat.zero_add]; exact hv) (vone _ _) rfl (by simp [iv, Value.oneCell']) (by simp only [List.length_singleton]; decide) (by simp only [List.length_singleton]; decide) fun a' c' H11 st11 _ => ?_
            (conv => whnf)
            exact ⟨rfl, (a', c'), rfl, st11⟩
        · rintro ⟨a9, c9⟩ H9 junk9 st9
          simp only at st9
          have st10 := st9.nils tNd 159
          generalize moves a n.x c = xs at *
          generalize moves a n.y c = ys at *
          (conv => whnf)
          refine VLoop.mk [7, 13] (fun x : Nat × List Nd × Option Addr × Nat => match x with | (i, out, a, c) => [.slice a out.length c, .int .i64 (i : Int)])
            (fun x H11 => x.1 ≤ xs.length ∧ x.2.1 = (xs.take x.1).flatMap (fun x => pairs1 x ys) ∧ x.2.1.length ≤ 2 * x.1 ∧ St H H11 [pB 123 p1 (la ++ lb ++ [Value.bool true]), pB 159 p2 (ndL n), pS tV 3 a8 xs.length c8 (xs.map iv), pS tV 3 a9 ys.length c9 (ys.map iv), pS tNd 159 x.2.2.1 x.2.1.length x.2.2.2 x.2.1]) (fun x _ => xs.length - x.1) ?_ ?_
          · (conv => whnf)
            exact ⟨(0, [], none, 0), rfl, by simp, rfl, by simp, st10⟩
          · rintro ⟨i, out, a11, c11⟩ H11 junk11 ⟨hi, hout, hol, st11⟩
            simp only at hi hout hol st11
            (conv => whnf); refine VIte.mk (fun hz => ?_) (fun hz => ?_) <;> simp only [decide_eq_true_eq, decide_eq_false_iff_not] at hz
            · obtain ⟨x, hxx⟩ := get_some (l := xs) (k := i) (by omega)
              have hnext : (xs.take (i + 1)).flatMap (fun x => pairs1 x ys) = out ++ pairs1 x ys := by
                rw [hout]; exact take_flat _ hxx
              (conv => whnf)
              refine VLoop.mk [7, 14] (fun x : Nat × List Nd × Option Addr × Nat => match x with | (k, out, a, c) => [.slice a out.length c, .int .i64 (k : Int)])
                (fun y H12 => y.1 ≤ ys.length ∧ y.2.1 = out ++ pairs1 x (ys.take y.1) ∧ St H H12 [pB 123 p1 (la ++ lb ++ [Value.bool true]), pB 159 p2 (ndL n), pS tV 3 a8 xs.length c8 (xs.map iv), pS tV 3 a9 ys.length c9 (ys.map iv), pS tNd 159 y.2.2.1 y.2.1.length y.2.2.2 y.2.1]) (fun y _ => ys.length - y.1) ?_ ?_
              · (conv => whnf)
                exact ⟨(0, out, a11, c11), rfl, by simp, by simp [pairs1], st11⟩
              · rintro ⟨k, o12, a12, c12⟩ H12 junk12 ⟨hk, ho12, st12⟩
                simp only at hk ho12 st12
                (conv => whnf); refine VIte.mk (fun hz2 => ?_) (fun hz2 => ?_) <;> simp only [decide_eq_true_eq, decide_eq_false_iff_not] at hz2
                · obtain ⟨y, hyy⟩ := get_some (l := ys) (k := k) (by omega)
                  have hnext2 : out ++ pairs1 x (ys.take (k + 1)) = o12 ++ [⟨1, x, y⟩] := by
                    rw [ho12, take_succ_snoc hyy]; simp [pairs1]
                  have hol12 : o12.length ≤ 2 * i + k := by
                    rw [ho12]; simp only [pairs1, List.length_append, List.length_map, List.length_take]; omega
                  have d24 := st12.apart (i := 2) (j := 4) (by decide) rfl rfl
                  have d34 := st12.apart (i := 3) (j := 4) (by decide) rfl rfl
                  (conv => whnf); refine VDraw.held (fun k => k < H12.size ∧ ¬ slB (.slice a12 o12.length c12) k) 12 (sq [0,1,2,3,4,5,6,7,8,9] (.f 10 (.f 11 (.f 12 .e)))) rfl (by kernel_rfl) ?_
                  (conv => whnf); refine ixOa (j := i) (x := iv x) sl36 st12 2 rfl (by rw [List.getElem?_map, hxx]; rfl) rfl fun b13 o13 cs13 hsb13 hO13 hc13 hr13 => ?_
                  obtain rfl := hr13
                  (conv => whnf); refine ld1 ct3 hc13.one ⟨hO13, fun h => d24 _ (.inl hsb13) (.inl h)⟩ ?_
                  (conv => whnf); refine ixOa (j := k) (x := iv y) sl36 st12 3 rfl (by rw [List.getElem?_map, hyy]; rfl) rfl fun b14 o14 cs14 hsb14 hO14 hc14 hr14 => ?_
                  obtain rfl := hr14
                  (conv => whnf); refine ld1 ct3 hc14.one ⟨hO14, fun h => d34 _ (.inl hsb14) (.inl h)⟩ ?_
                  (conv => whnf); refine vbuildS Try.underlying159 rfl (ndV root) spot_z (ndL ⟨1, x, y⟩) rfl ?_
                  (conv => whnf); refine vbuild1 sl153 (ndL ⟨1, x, y⟩) rfl rfl (by decide) (by decide) ?_
                  intro q15 H15 hq15 hs15 hb15 ha15
                  have st15 := st12.skip hq15 ha15
                  refine ⟨ha15.mono fun k hk => by have := hk.1; omega, ?_⟩
                  (conv => whnf); refine appG (ys := [⟨1, x, y⟩]) (ds := ndL ⟨1, x, y⟩) st15 4 sl153 rfl (hb15.cells fun j v hv => by rw [Nat.zero_add]; exact hv) (nodesR _ _) rfl (by simp [ndL, Value.oneCell']) (by simp only [List.length_singleton, maxLen]; omega) (by simp only [List.length_singleton]; omega) fun a' c' H16 st16 ha16 => ?_
                  refine ⟨(ha15.mono fun k hk => by have := hk.1; omega).trans (ha16.mono fun k hk => ⟨by have := hk.1; omega, hk.2⟩), ?_⟩
                  (conv => whnf); rw [w64 (x := (k : Int) + 1) (by omega) (by omega)]
                  refine ⟨rfl, (k + 1, o12 ++ [⟨1, x, y⟩], a', c'), by simp, ⟨by simp only; omega, hnext2.symm, ?_⟩, by simp only; omega⟩
                  simp only [List.length_append, List.length_singleton]
                  exact st16.pick [0, 1, 2, 3, 4] (by decide)
                · obtain rfl : k = ys.length := by omega
                  rw [List.take_length] at ho12
                  (conv => whnf); rw [w64 (x := (i : Int) + 1) (by omega) (by omega)]
                  refine ⟨rfl, (i + 1, o12, a12, c12), by simp, ⟨by simp only; omega, by simp only; rw [hnext, ho12], ?_, st12⟩, by simp only; omega⟩
                  simp only
                  rw [ho12]
                  simp only [pairs1, List.length_append, List.length_map]; omega
            · obtain rfl : i = xs.length := by omega
              rw [List.take_length] at hout
              (conv => whnf)
              refine ⟨st11.old, ?_⟩
              have := St.own st11 4 rfl
              rw [hout] at this ⊢
              exact this
    | false =>
      have hR : CatR a b n := hn
      (conv => whnf); refine fa fl123_1 ?_
      (conv => whnf); refine g4.ldb trivial ?_
      (conv => whnf); refine fa fl159_1 ?_
      (conv => whnf); refine ld1 ct3 (sdx1 q4) trivial ?_
      (conv => whnf); refine pures (refstep_p (hup st4) g4.b bok hc) fun H6 ha6 => ?_
      have st6 := st5.call ha6
      have q6 := st6.blk 1 rfl
      have g6 := hG st6 rfl
      rw [← bstep _ c hc]
      (conv => whnf); refine fa fl159_0 ?_
      (conv => whnf); refine ld1 ct3 (sdx0 q6) trivial ?_
      by_cases h1 : n.s = 1
      · have d1 : (n.s == 1) = true := by rw [h1]; rfl
        have hy : inA a n.y := by
          rcases hR with ⟨h, -⟩ | ⟨-, -, h⟩ | ⟨h, -⟩
          · exact absurd h h0
          · exact h
          · omega
        have hN : (gameG false a b).next n c = [⟨1, stepM b n.x c, stepM a n.y c⟩] ++ (if finM a n.y then [⟨2, stepM b n.x c, stepM b 0 c⟩] else []) := by
          show catNext a b n c = _
          unfold catNext
          rw [if_neg h0, if_pos h1]; rfl
        rw [hN]
        (conv => whnf); rw [d1]
        (conv => whnf); refine vbuildS Try.underlying159 rfl (ndV root) spot_z (ndL ⟨1, stepM b n.x c, stepM a n.y c⟩) rfl ?_
        (conv => whnf); refine vbuild1 sl153 (ndL ⟨1, stepM b n.x c, stepM a n.y c⟩) rfl rfl (by decide) (by decide) ?_
        intro q7 H7b hq7 hs7 hb7 ha7
        have st7b := st6.skip hq7 ha7
        (conv => whnf); refine appG (ys := [⟨1, stepM b n.x c, stepM a n.y c⟩]) (ds := ndL ⟨1, stepM b n.x c, stepM a n.y c⟩) st7b 2 sl153 rfl (hb7.cells fun j v hv => by rw [Nat.zero_add]; exact hv) (nodesR _ _) rfl (by simp [ndL, Value.oneCell']) (by simp [maxLen]) (by simp) fun a7 c7 H7 st7 _ => ?_
        have g7 := hG st7 rfl
        have q7 := st7.blk 1 rfl
        (conv => whnf); refine VSeq.run ?_
        (conv => whnf); refine fa fl123_0 ?_
        (conv => whnf); refine fa fl38_3 ?_
        (conv => whnf); refine g7.fa_ trivial fun fa fc hfs => ?_
        (conv => whnf); refine VC.fa fl159_2 ?_
        (conv => whnf); refine ld1 ct3 (sdx2 q7) trivial ?_
        (conv => whnf); refine fin_ix hfs hy.1 (by have := hy.2; omega) fun b8 o8 hS8 hc8 => ?_
        (conv => whnf); refine ld1 ct4 hc8 trivial ?_
        rw [← afin]
        cases hf : finM a n.y with
        | false =>
          (conv => whnf)
          exact ⟨st7.old, by have := St.own st7 2 rfl; simpa using this⟩
        | true =>
          (conv => whnf); refine VC.fa fl123_1 ?_
          (conv => whnf); refine g7.ldb trivial ?_
          (conv => whnf); refine pures (refstep_p (q := 0) (hup st7) g7.b bok hc) fun H8 ha8 => ?_
          have st8 := st7.call ha8
          rw [← bstep _ c hc]
          (conv => whnf); refine vbuildS Try.underlying159 rfl (ndV root) spot_z (ndL ⟨2, stepM b n.x c, stepM b 0 c⟩) rfl ?_
          (conv => whnf); refine vbuild1 sl153 (ndL ⟨2, stepM b n.x c, stepM b 0 c⟩) rfl rfl (by decide) (by decide) ?_
          intro q9 H9b hq9 hs9 hb9 ha9
          have st9b := st8.skip hq9 ha9
          (conv => whnf); refine appG (ys := [⟨2, stepM b n.x c, stepM b 0 c⟩]) (ds := ndL ⟨2, stepM b n.x c, stepM b 0 c⟩) st9b 2 sl153 rfl (hb9.cells fun j v hv => by rw [Nat.zero_add]; exact hv) (nodesR _ _) rfl (by simp [ndL, Value.oneCell']) (by simp [maxLen]) (by simp) fun a9 c9 H9 st9 _ => ?_
          (conv => whnf)
          exact ⟨st9.old, by have := St.own st9 2 rfl; simpa using this⟩
      · have d1 : (n.s == 1) = false := beq_eq_false_iff_ne.2 h1
        have hN : (gameG false a b).next n c = [⟨2, stepM b n.x c, stepM b n.y c⟩] := by
          show catNext a b n c = _
          unfold catNext
          rw [if_neg h0, if_neg h1]
        rw [hN]
        (conv => whnf); rw [d1]
        (conv => whnf); refine fa fl123_1 ?_
        (conv => whnf); refine g6.ldb trivial ?_
        (conv => whnf); refine fa fl159_2 ?_
        (conv => whnf); refine ld1 ct3 (sdx2 q6) trivial ?_
        (conv => whnf); refine pures (refstep_p (hup st6) g6.b bok hc) fun H7 ha7 => ?_
        have st7 := st6.call ha7
        rw [← bstep _ c hc]
        (conv => whnf); refine vbuildS Try.underlying159 rfl (ndV root) spot_z (ndL ⟨2, stepM b n.x c, stepM b n.y c⟩) rfl ?_
        (conv => whnf); refine vbuild1 sl153 (ndL ⟨2, stepM b n.x c, stepM b n.y c⟩) rfl rfl (by decide) (by decide) ?_
        intro q8 H8b hq8 hs8 hb8 ha8
        have st8b := st7.skip hq8 ha8
        (conv => whnf); refine appG (ys := [⟨2, stepM b n.x c, stepM b n.y c⟩]) (ds := ndL ⟨2, stepM b n.x c, stepM b n.y c⟩) st8b 2 sl153 rfl (hb8.cells fun j v hv => by rw [Nat.zero_add]; exact hv) (nodesR _ _) rfl (by simp [ndL, Value.oneCell']) (by simp [maxLen]) (by simp) fun a8 c8 H8 st8 _ => ?_
        (conv => whnf)
        exact ⟨st8.old, by have := St.own st8 2 rfl; simpa using this⟩
end Go.Proofs.Ytkgmhkcncemmkaa
