/- louperef08.deeper and List: the walks. -/
import Derived.Test.YtkgmhkcncemmkaaPWLs4
set_option linter.unusedVariables false
set_option linter.unusedSimpArgs false
set_option maxRecDepth 100000
namespace Go.Proofs.Ytkgmhkcncemmkaa
open Go.VC
attribute [local irreducible] mRun gRun atRun
theorem take_cut {α : Type} (A B : List α) (K : Nat) : (A.take K ++ B).take K = (A ++ B).take K := by
  by_cases h : A.length ≤ K
  · rw [List.take_of_length_le h]
  · rw [List.take_append_of_le_length (by simp; omega), List.take_append_of_le_length (by omega), List.take_take, Nat.min_self]
theorem agr_two {B : Nat → Prop} {a b c : Heap} (h : Agr B a b) (k : Agr B a c) : Agr B b c := fun i hi => (k i hi).trans (h i hi).symm
/-- The list with the words of n bytes behind us. -/
def addW (o : Option AM) (K n : Nat) (q : Int) (us : List Nat) (xs : List ByteArray) : List ByteArray := (xs ++ (memL o n q).map fun w => txt (us ++ w)).take K
def addTo (o : Option AM) (K n : Nat) (q : Int) (us : List Nat) (xs : List ByteArray) (b : Nat) : List ByteArray := (xs ++ (memTo o n q b).map fun w => txt (us ++ w)).take K
theorem addW_le (o : Option AM) (K n : Nat) (q : Int) (us : List Nat) (xs : List ByteArray) : (addW o K n q us xs).length ≤ K := List.length_take_le _ _
theorem addTo_le (o : Option AM) (K n : Nat) (q : Int) (us : List Nat) (xs : List ByteArray) (b : Nat) : (addTo o K n q us xs b).length ≤ K := List.length_take_le _ _
theorem addTo_zero (o : Option AM) {K : Nat} (n : Nat) (q : Int) (us : List Nat) {xs : List ByteArray} (h : xs.length ≤ K) : addTo o K n q us xs 0 = xs := by
  unfold addTo memTo
  simp [List.take_of_length_le h]
theorem addTo_succ (o : Option AM) (K n : Nat) (q : Int) (us : List Nat) (xs : List ByteArray) (b : Nat) : addW o K n (stepM o q b) (us ++ [b]) (addTo o K n q us xs b) = addTo o K n q us xs (b + 1) := by
  unfold addW addTo
  rw [take_cut, memTo_succ, List.map_append, List.map_map, List.append_assoc]
  congr 3
  refine List.map_congr_left fun w _ => ?_
  simp
theorem addTo_all (o : Option AM) (K n : Nat) (q : Int) (us : List Nat) (xs : List ByteArray) : addTo o K n q us xs 256 = addW o K (n + 1) q us xs := rfl
/-- How deeper ends. -/
def DEnd (B : Nat → Prop) (H0 : Heap) (rest : List Pc) (ys : List ByteArray) (r : Value) (H' : Heap) : Prop :=
  ∃ a' cap', r = .slice a' ys.length cap' ∧ StB B H0 H' (pS tS 9 a' ys.length cap' ys :: rest)
set_option maxHeartbeats 8000000 in
theorem deeper_c {S B : Nat → Prop} {H0 : Heap} {o : Option AM} {D : DM} {nb K : Nat} (hS : ∀ k, S k → B k) (hB : Both o D) (hst : StepIn o) (hrows : SlD tRows B H0 (some ⟨nb, 0, none⟩) 65 (pathL o 64 65)) (hK : K ≤ 100) (hl : D.cell.length = 256) :
    ∀ (n : Nat), n ≤ 64 → ∀ {H : Heap} {rest : List Pc} {v : Value} {q : Nat} {a : Option Addr} {cap : Nat} {us : List Nat} {xs : List ByteArray} (st : StB B H0 H (pS tS 9 a xs.length cap xs :: rest)), DfaV S H v D → q < stN o → xs.length ≤ K → us.length + n ≤ 64 →
      FnOk Try.prog 57 #[v, .slice (some ⟨nb, 0, none⟩) 65 65, .int .i64 (q : Int), .int .i64 (n : Int), .string (txt us), .int .i64 (K : Int), .slice a xs.length cap] H
        (DEnd B H0 rest (addW o K n (q : Int) us xs)) := fun n => by
  induction n using Nat.strongRecOn with
  | _ n ih =>
  intro hn H rest v q a cap us xs st hv hq hxs hus
  have hok := hB.ok
  have hN := hB.n
  have hn1 := hok.n1
  have hn2 := hok.n2
  have hml := memL_len o n (q : Int)
  have pl := pathL_len o 64 65
  have hget : ∀ k, k ≤ 64 → (pathL o 64 65)[k]? = some (pathR o k) := fun k hk => by rw [pathL_get o 64 65 (by omega), if_pos (by omega)]
  have hcap : ∀ x, x < TM → capI x = (x : Int) := fun x hx => by unfold capI; rw [if_pos hx]
  have hcap' : ∀ x, ¬ x < TM → capI x = -1 := fun x hx => by unfold capI; rw [if_neg hx]
  refine FnOk.of_vc Try.func57 rfl (Try.call57 _) ?_
  (conv => whnf); refine dfa_box hv fun ra rc na nc fa fc he a1 a2 a3 => ?_
  subst he
  intro pa H1 hpa hs1 hb1 ha1
  have st1 : StB B H0 H1 (pB 38 pa (dfaL D.cell (.slice ra D.reps.length rc) (.slice na D.next.length nc) (.slice fa D.final.length fc)) :: pS tS 9 a xs.length cap xs :: rest) := (st.box hpa hs1 hb1 ha1).perm (List.perm_append_singleton _ _)
  have drop : ∀ {H' : Heap} {a' : Option Addr} {n' cap' : Nat} {ys : List ByteArray}, StB B H0 H' (pB 38 pa (dfaL D.cell (.slice ra D.reps.length rc) (.slice na D.next.length nc) (.slice fa D.final.length fc)) :: pS tS 9 a' n' cap' ys :: rest) → StB B H0 H' (pS tS 9 a' n' cap' ys :: rest) := fun st => st.sub (List.sublist_cons_self _ _)
  have agr : ∀ {H' : Heap} {ps : List Pc}, StB B H0 H' ps → Agr S H H' := fun st' => (agr_two st.old st'.old).mono hS
  (conv => whnf); refine ixrn (i := n) sl23 (hrows.frame st1.old) pl.symm (hget n hn) rfl ?_
  rintro b3 o3 c3 hS3 hc3 ⟨xa, xc, rfl, hx⟩
  (conv => whnf); refine ld1 ct36 hc3.one trivial ?_
  (conv => whnf); refine ixr (i := q) sl36 hx (pathR_get o n hq) rfl ?_
  rintro b4 o4 c4 hS4 hc4 ⟨rfl, -⟩
  (conv => whnf); refine ld1 ct3 hc4.one trivial ?_
  have hst0 := hst (q : Int)
  by_cases h0 : wN o n (q : Int) = 0
  · have d0 : (capI (wN o n (q : Int)) == 0) = true := by rw [h0, hcap 0 (by unfold TM; omega)]; rfl
    rw [h0] at hml
    have hnil := List.eq_nil_of_length_eq_zero hml
    have hys : addW o K n (q : Int) us xs = xs := by unfold addW; rw [hnil, List.map_nil, List.append_nil, List.take_of_length_le hxs]
    (conv => whnf); rw [d0]
    (conv => whnf)
    rw [hys]
    exact ⟨a, cap, rfl, drop st1⟩
  have d0 : (capI (wN o n (q : Int)) == 0) = false := by
    refine beq_eq_false_iff_ne.2 ?_
    by_cases hT : wN o n (q : Int) < TM
    · rw [hcap _ hT]; omega
    · rw [hcap' _ hT]; omega
  (conv => whnf); rw [d0]
  by_cases h1 : xs.length = K
  · have d1 : ((xs.length : Int) == (K : Int)) = true := by rw [h1]; simp
    have hys : addW o K n (q : Int) us xs = xs := by unfold addW; rw [List.take_left' h1]
    (conv => whnf); rw [d1]
    (conv => whnf)
    rw [hys]
    exact ⟨a, cap, rfl, drop st1⟩
  have d1 : ((xs.length : Int) == (K : Int)) = false := beq_eq_false_iff_ne.2 (by omega)
  (conv => whnf); rw [d1]
  by_cases hn0 : n = 0
  · subst hn0
    have d2 : (((0 : Nat) : Int) == 0) = true := rfl
    have hmem : memL o 0 (q : Int) = [[]] := by
      have : memL o 0 (q : Int) = if finM o (q : Int) then [[]] else [] := rfl
      rw [this] at hml ⊢
      split
      · rfl
      · rename_i hf
        rw [if_neg hf] at hml
        exact absurd hml.symm h0
    have hys : addW o K 0 (q : Int) us xs = xs ++ [txt us] := by
      unfold addW
      rw [hmem, List.map_cons, List.map_nil, List.append_nil, List.take_of_length_le (by simp; omega)]
    (conv => whnf); refine vbuild1 sl57 [.string (txt us)] rfl rfl (by decide) (by decide) ?_
    intro q21 H21 hq21 hs21 hb21 ha21
    (conv => whnf); refine app1 (x := txt us) (st1.skip hq21 ha21) 1 sl57 rfl hb21 ⟨rfl, by rw [txt_size]; unfold maxLen; omega⟩ rfl (by omega) (by decide) fun a'' c'' H22 st2 _ => ?_
    (conv => whnf)
    rw [hys]
    have el : xs.length + 1 = (xs ++ [txt us]).length := by simp
    refine ⟨a'', c'', by rw [el], ?_⟩
    rw [← el]
    exact drop st2
  obtain ⟨n, rfl⟩ : ∃ m, n = m + 1 := ⟨n - 1, by omega⟩
  have d2 : (((n + 1 : Nat) : Int) == 0) = false := beq_eq_false_iff_ne.2 (by omega)
  (conv => whnf)
  refine VLoop.mk [6, 15] (fun x : Nat × Option Addr × Nat => match x with | (b, a', c') => [.slice a' (addTo o K n (q : Int) us xs b).length c', .int .i64 (b : Int)])
    (fun x H2 => x.1 ≤ 256 ∧ StB B H0 H2 (pB 38 pa (dfaL D.cell (.slice ra D.reps.length rc) (.slice na D.next.length nc) (.slice fa D.final.length fc)) :: pS tS 9 x.2.1 (addTo o K n (q : Int) us xs x.1).length x.2.2 (addTo o K n (q : Int) us xs x.1) :: rest)) (fun x _ => 256 - x.1) ?_ ?_
  · (conv => whnf)
    refine ⟨(0, a, cap), ?_, Nat.zero_le _, ?_⟩
    · simp only [addTo_zero o n (q : Int) us hxs]; rfl
    · simp only [addTo_zero o n (q : Int) us hxs]; exact st1
  · rintro ⟨b, a', c'⟩ H2 junk ⟨hb, st2⟩
    simp only at hb st2
    (conv => whnf); refine VIte.mk (fun hz => ?_) (fun hz => ?_) <;> simp only [decide_eq_true_eq, decide_eq_false_iff_not] at hz
    · have hst2 := hst0 b (by omega) (by omega) (by omega)
      have hsu := addTo_succ o K n (q : Int) us xs b
      have hle2 := addTo_le o K n (q : Int) us xs b
      obtain ⟨ys, hys⟩ : ∃ ys, ys = addTo o K n (q : Int) us xs b := ⟨_, rfl⟩
      rw [← hys] at hsu hle2 st2 ⊢
      obtain ⟨zs, hzs⟩ : ∃ zs, zs = addTo o K n (q : Int) us xs (b + 1) := ⟨_, rfl⟩
      rw [← hzs] at hsu
      obtain ⟨t, ht⟩ := Int.eq_ofNat_of_zero_le hst2.1
      have htn : t < stN o := by omega
      rw [ht] at hsu
      have hts := txt_size us
      have hstep : ∀ {H' : Heap} {v' : Value}, (∀ k, S k → k < H'.size) → DfaV S H' v' D → Pure Try.prog 53 #[v', .int .i64 (q : Int), .int .u8 (b : Int)] H' (.int .i64 (t : Int)) := fun h1 h2 => by
        have := refstep_p (q := (q : Int)) h1 h2 hok (show b < 256 by omega)
        rw [← hB.step (q : Int) b (by omega), ht] at this
        exact this
      have e1 : (⟨([b].map UInt8.ofNat).toArray⟩ : ByteArray) = txt [b] := by unfold txt; rfl
      have hvv : ∀ {H' : Heap} {ps : List Pc} {v' : Value}, StB B H0 H' ps → Agr S H2 H' → DfaV S H2 v' D → DfaV S H' v' D := fun _ h1 h2 => h2.frame h1
      have hfin : ∀ {H' : Heap} {v' : Value}, DfaV S H' v' D → StB B H0 H' (pB 38 pa (dfaL D.cell (.slice ra D.reps.length rc) (.slice na D.next.length nc) (.slice fa D.final.length fc)) :: pS tS 9 a' ys.length c' ys :: rest) →
          FnOk Try.prog 57 #[v', .slice (some ⟨nb, 0, none⟩) 65 65, .int .i64 (t : Int), .int .i64 (n : Int), .string (txt (us ++ [b])), .int .i64 (K : Int), .slice a' ys.length c'] H' (DEnd B H0 (pB 38 pa (dfaL D.cell (.slice ra D.reps.length rc) (.slice na D.next.length nc) (.slice fa D.final.length fc)) :: rest) zs) := fun {H' v'} h1 st' => by
        rw [← hsu]
        exact ih n (by omega) (by omega) (st'.perm (List.Perm.swap _ _ _)) h1 htn hle2 (by simp; omega)
      (conv => whnf); refine VDraw.cut [6] (fun x : Option Addr × Nat => match x with | (a5, c5) => [.slice a5 zs.length c5]) (fun x H9 => StB B H0 H9 (pB 38 pa (dfaL D.cell (.slice ra D.reps.length rc) (.slice na D.next.length nc) (.slice fa D.final.length fc)) :: pS tS 9 x.1 zs.length x.2 zs :: rest)) ?_ ?_
      · refine VDraw.heldZ (Old H2) [17, 18] (sq [0,1,2,3,4,5,7,8,9,10,11,15,16] (.b 6 (.f 12 (.f 13 (sq [14] (.f 17 (.f 18 .e))))) 12 (.b 6 (.f 13 (sq [14] (.f 17 (.f 18 .e)))) 13 (sq [14] (.f 6 (.f 17 (.f 18 .e))))))) rfl (by kernel_rfl) ?_
        have hag := agr st2
        (conv => whnf); refine dfa_load (st2.blk 0 rfl) hl (st2.in_ 0 rfl rfl).2 (a1.frame hag) (a2.frame hag) (a3.frame hag) fun v3 hv3 => ?_
        (conv => whnf); refine dfa_load (st2.blk 0 rfl) hl (st2.in_ 0 rfl rfl).2 (a1.frame hag) (a2.frame hag) (a3.frame hag) fun v4 hv4 => ?_
        (conv => whnf); rw [w8 (x := (b : Int)) (by omega) (by omega)]
        (conv => whnf); rw [w64 (x := ((n + 1 : Nat) : Int) - 1) (by omega) (by omega), show ((n + 1 : Nat) : Int) - 1 = (n : Int) by omega]
        have b2s : ∀ {q9 : Nat} {H9 : Heap}, Blk H9 q9 5 [.int .u8 (b : Int)] → ∀ (j x : Nat), [b][j]? = some x → VC.cell H9 q9 (0 + j) = some (.int .u8 (x : Int)) := fun hb9 j x hx => by
          have hj : j = 0 := by have := (List.getElem?_eq_some_iff.1 hx).1; simpa using this
          subst hj
          cases hx
          rw [hb9.cell]; rfl
        have fin17 : ∀ {H9 : Heap}, Agr (Old H2) H2 H9 → StB B H0 H9 (pB 38 pa (dfaL D.cell (.slice ra D.reps.length rc) (.slice na D.next.length nc) (.slice fa D.final.length fc)) :: pS tS 9 a' ys.length c' ys :: rest) →
            FnOk Try.prog 57 #[v3, .slice (some ⟨nb, 0, none⟩) 65 65, .int .i64 (t : Int), .int .i64 (n : Int), .string (txt (us ++ [b])), .int .i64 (K : Int), .slice a' ys.length c'] H9 (DEnd B H0 (pB 38 pa (dfaL D.cell (.slice ra D.reps.length rc) (.slice na D.next.length nc) (.slice fa D.final.length fc)) :: rest) zs) := fun h9 st9 =>
          hfin (hv3.frame (h9.mono fun k hk => st2.up (hS k hk))) st9
        have hsz : (txt us).size + (txt [b]).size ≤ maxLen := by rw [hts, txt_size]; simp; unfold maxLen; omega
        refine ⟨?_, ?_⟩
        · (conv => whnf); refine pures (hstep (fun k hk => st2.up (hS k hk)) hv4) fun H8 ha8 => ?_
          have st8 := st2.call ha8
          refine ⟨ha8, ?_⟩
          (conv => whnf); refine vbuild1 sl48 [.int .u8 (b : Int)] rfl rfl (by decide) (by decide) ?_
          intro q9 H9 hq9 hs9 hb9 ha9
          have st9 := st8.skip hq9 ha9
          have h29 : Agr (Old H2) H2 H9 := ha8.trans (ha9.mono fun k hk => by have := old_lt ha8 hk; omega)
          refine ⟨h29, ?_⟩
          (conv => whnf); refine vb2s [b] rfl rfl rfl (b2s hb9) rfl ?_
          refine ⟨h29, ?_⟩
          rw [e1]
          (conv => whnf); refine vcat hsz ?_
          rw [txt_snoc]
          (conv => whnf); refine VCall.mk (fin17 h29 st9) ?_
          rintro _ H10 ⟨a5, c5, rfl, st10⟩
          (conv => whnf)
          exact ⟨rfl, (a5, c5), rfl, st10.perm (List.Perm.swap _ _ _)⟩
        · (conv => whnf); refine vbuild1 sl48 [.int .u8 (b : Int)] rfl rfl (by decide) (by decide) ?_
          intro q9 H9 hq9 hs9 hb9 ha9
          have st9 := st2.skip hq9 ha9
          have h29 : Agr (Old H2) H2 H9 := ha9.mono fun k hk => by unfold Old at hk; omega
          have hv9 := hv4.frame (h29.mono fun k hk => st2.up (hS k hk))
          refine ⟨h29, ?_⟩
          refine ⟨?_, ?_⟩
          · (conv => whnf); refine pures (hstep (fun k hk => st9.up (hS k hk)) hv9) fun H8 ha8 => ?_
            have st8 := st9.call ha8
            have h28 : Agr (Old H2) H2 H8 := h29.trans (ha8.mono fun k hk => old_lt h29 hk)
            refine ⟨h28, ?_⟩
            (conv => whnf); refine vb2s [b] rfl rfl rfl (b2s (hb9.agr ha8 (by have := hb9.lt; exact this))) rfl ?_
            refine ⟨h28, ?_⟩
            rw [e1]
            (conv => whnf); refine vcat hsz ?_
            rw [txt_snoc]
            (conv => whnf); refine VCall.mk (fin17 h28 st8) ?_
            rintro _ H10 ⟨a5, c5, rfl, st10⟩
            (conv => whnf)
            exact ⟨rfl, (a5, c5), rfl, st10.perm (List.Perm.swap _ _ _)⟩
          · (conv => whnf); refine vb2s [b] rfl rfl rfl (b2s hb9) rfl ?_
            refine ⟨h29, ?_⟩
            rw [e1]
            (conv => whnf); refine vcat hsz ?_
            rw [txt_snoc]
            (conv => whnf); refine pures (hstep (fun k hk => st9.up (hS k hk)) hv9) fun H8 ha8 => ?_
            have st8 := st9.call ha8
            have h28 : Agr (Old H2) H2 H8 := h29.trans (ha8.mono fun k hk => old_lt h29 hk)
            refine ⟨h28, ?_⟩
            (conv => whnf); refine VCall.mk (fin17 h28 st8) ?_
            rintro _ H10 ⟨a5, c5, rfl, st10⟩
            (conv => whnf)
            exact ⟨rfl, (a5, c5), rfl, st10.perm (List.Perm.swap _ _ _)⟩
      · rintro ⟨a5, c5⟩ H9 junk9 st9
        simp only at st9
        (conv => whnf); rw [w64 (x := (b : Int) + 1) (by omega) (by omega)]
        subst hzs
        exact ⟨rfl, (b + 1, a5, c5), by simp, ⟨by simp only; omega, st9⟩, by simp only; omega⟩
    · obtain rfl : b = 256 := by omega
      (conv => whnf)
      rw [← addTo_all]
      exact ⟨a', c', rfl, drop st2⟩
set_option maxHeartbeats 8000000 in
theorem reflist_c {S : Nat → Prop} {H : Heap} {v : Value} {o : Option AM} {D : DM} (n : Int) (hS : ∀ k, S k → k < H.size) (hv : DfaV S H v D) (hB : Both o D) (hst : StepIn o) :
    FnOk Try.prog 28 #[v, .int .i64 n] H fun r H' => Agr (Old H) H H' ∧ ∃ a cap, r = .tuple #[.slice a (listR o n).1.length cap, .int .i64 (listR o n).2] ∧ SlO tS none_ H' H.size 9 (.slice a (listR o n).1.length cap) (listR o n).1 := by
  have hl := hv.len
  have hok := hB.ok
  have hn1 := hok.n1
  have hn2 := hok.n2
  have hN := hB.n
  refine FnOk.of_vc Try.func28 rfl (Try.call28 _) ?_
  (conv => whnf); refine dfa_box hv fun ra rc na nc fa fc he a1 a2 a3 => ?_
  subst he
  intro pa H1 hpa hs1 hb1 ha1
  have st1 := (St.nil H).box hpa hs1 hb1 ha1
  by_cases h1 : n < 0
  · have d1 : decide (n < 0) = true := decide_eq_true h1
    have hR : listR o n = ([], 2) := by unfold listR; rw [if_pos (.inl h1)]
    (conv => whnf); rw [d1]
    (conv => whnf)
    rw [hR]
    exact ⟨st1.old, none, 0, rfl, SlO.nil⟩
  have d1 : decide (n < 0) = false := decide_eq_false h1
  (conv => whnf); rw [d1]
  by_cases h2 : 100 < n
  · have d2 : decide (100 < n) = true := decide_eq_true h2
    have hR : listR o n = ([], 2) := by unfold listR; rw [if_pos (.inr h2)]
    (conv => whnf); rw [d2]
    (conv => whnf)
    rw [hR]
    exact ⟨st1.old, none, 0, rfl, SlO.nil⟩
  have d2 : decide (100 < n) = false := decide_eq_false h2
  (conv => whnf); rw [d2]
  obtain ⟨N, rfl⟩ := Int.eq_ofNat_of_zero_le (Int.not_lt.1 h1)
  have hN100 : N ≤ 100 := by omega
  have hR : listR o (N : Int) = (((allM o 65).take N).map txt, 0) := by unfold listR; rw [if_neg (by omega), Int.toNat_natCast]
  rw [hR]
  (conv => whnf); refine dfa_load (st1.blk 0 rfl) hl trivial (a1.frame (st1.old.mono hS)) (a2.frame (st1.old.mono hS)) (a3.frame (st1.old.mono hS)) fun v3 hv3 => ?_
  (conv => whnf); refine VCall.mk (paths_c 64 (by omega) (fun k hk => old_lt st1.old (hS k hk)) hv3 hB) ?_
  rintro _ H2 ⟨ha2, nb, rfl, hrows⟩
  have st2 := st1.call ha2
  have h02 := st2.old
  have hb2 := st2.blk 0 rfl
  obtain ⟨Y, hY⟩ : ∃ Y : Nat → List ByteArray, ∀ m, Y m = ((allM o m).take N).map txt := ⟨fun m => ((allM o m).take N).map txt, fun m => rfl⟩
  have hYle : ∀ m, (Y m).length ≤ N := fun m => by rw [hY, List.length_map]; exact List.length_take_le _ _
  have hYs : ∀ m, addW o N m 0 [] (Y m) = Y (m + 1) := fun m => by
    unfold addW
    rw [hY, hY, allM_succ]
    simp only [List.map_take, List.nil_append, take_cut, List.map_append]
  have hYf : ∀ m, m ≤ 65 → (Y m).length = N → Y m = Y 65 := fun m hm hlen => by
    obtain ⟨r, hr⟩ := allM_pre o hm
    rw [hY] at hlen
    rw [hY, hY]
    rw [List.length_map, List.length_take] at hlen
    rw [hr, List.take_append_of_le_length (by omega)]
  have hY0 : Y 0 = [] := by rw [hY]; unfold allM; simp
  have hYend : Y 65 = ((allM o 65).take N).map txt := by rw [hY]
  rw [← hYend]
  clear hYend
  (conv => whnf)
  refine VLoop.mk [7, 8] (fun x : Nat × Option Addr × Nat => match x with | (m, a', c') => [.slice a' (Y m).length c', .int .i64 (m : Int)])
    (fun x H3 => x.1 ≤ 65 ∧ St H2 H3 [pS tS 9 x.2.1 (Y x.1).length x.2.2 (Y x.1)]) (fun x _ => 65 - x.1) ?_ ?_
  · (conv => whnf)
    refine ⟨(0, none, 0), ?_, Nat.zero_le _, ?_⟩
    · simp only [hY0]; rfl
    · simp only [hY0]; exact (St.nil H2).nils tS 9
  · rintro ⟨m, a', c'⟩ H3 junk3 ⟨hm, st3⟩
    simp only at hm st3
    have hle := hYle m
    have h03 : Agr (Old H) H H3 := h02.trans (st3.old.mono fun k hk => old_lt h02 hk)
    have hfin : ∀ {Z : List ByteArray}, Z = Y m → Z = Y 65 → Agr (Old H) H H3 ∧ ∃ a cap, Value.tuple #[.slice a' (Y m).length c', .int .i64 0] = .tuple #[.slice a (Y 65).length cap, .int .i64 0] ∧ SlO tS none_ H3 H.size 9 (.slice a (Y 65).length cap) (Y 65) := fun h1 h2 => by
      rw [← h2, h1]
      exact ⟨h03, a', c', rfl, (St.own st3 0 rfl).lower (old_size h02)⟩
    by_cases hm65 : m = 65
    · subst hm65
      have d3 : decide (((65 : Nat) : Int) ≤ 64) = false := by decide
      (conv => whnf)
      exact hfin rfl rfl
    have d3 : decide ((m : Int) ≤ 64) = true := decide_eq_true (by omega)
    (conv => whnf); rw [d3]
    by_cases hlen : (Y m).length < N
    · have d4 : decide (((Y m).length : Int) < (N : Int)) = true := decide_eq_true (by omega)
      (conv => whnf); rw [d4]
      have hb3 := hb2.agr st3.old (by have := hb2.lt; exact this)
      (conv => whnf); refine dfa_load hb3 hl trivial (a1.frame (h03.mono hS)) (a2.frame (h03.mono hS)) (a3.frame (h03.mono hS)) fun v4 hv4 => ?_
      have hd := deeper_c (S := S) (B := Old H2) (K := N) (q := 0) (us := []) (fun k hk => old_lt h02 (hS k hk)) hB hst hrows hN100 hl m (by omega) st3 hv4 (by omega) hle (by simp; omega)
      rw [show ((0 : Nat) : Int) = 0 from rfl, hYs] at hd
      (conv => whnf); refine VCall.mk hd ?_
      rintro _ H5 ⟨a5, c5, rfl, st5⟩
      (conv => whnf); rw [w64 (x := (m : Int) + 1) (by omega) (by omega)]
      exact ⟨rfl, (m + 1, a5, c5), by simp, ⟨by simp only; omega, st5⟩, by simp only; omega⟩
    · have d4 : decide (((Y m).length : Int) < (N : Int)) = false := decide_eq_false (by omega)
      (conv => whnf); rw [d4]
      (conv => whnf)
      exact hfin rfl (hYf m hm (by omega))
end Go.Proofs.Ytkgmhkcncemmkaa
