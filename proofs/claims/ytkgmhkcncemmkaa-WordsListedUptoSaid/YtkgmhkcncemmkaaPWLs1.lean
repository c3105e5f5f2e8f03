/- The members in order; (*tally).walk: the walk. -/
import Derived.Test.YtkgmhkcncemmkaaPWrd13
import Derived.Test.YtkgmhkcncemmkaaVPush
set_option linter.unusedVariables false
set_option linter.unusedSimpArgs false
set_option maxRecDepth 100000
namespace Go.Proofs.Ytkgmhkcncemmkaa
open Go.VC
attribute [local irreducible] mRun gRun atRun
/-- The words of n bytes that lead from q to a final state, in order. -/
def memL (o : Option AM) : Nat → Int → List (List Nat)
  | 0, q => if finM o q then [[]] else []
  | n + 1, q => (List.range 256).flatMap fun b => (memL o n (stepM o q b)).map (b :: ·)
theorem memL_len (o : Option AM) : ∀ (n : Nat) (q : Int), (memL o n q).length = wN o n q
  | 0, q => by unfold memL wN; split <;> rfl
  | n + 1, q => by
    unfold memL wN
    rw [List.length_flatMap]
    congr 1
    refine List.map_congr_left fun b _ => ?_
    rw [List.length_map, memL_len o n]
theorem memL_word (o : Option AM) : ∀ (n : Nat) (q : Int), ∀ w ∈ memL o n q, w.length = n
  | 0, q, w, h => by
    unfold memL at h
    split at h
    · rw [List.mem_singleton] at h; subst h; rfl
    · cases h
  | n + 1, q, w, h => by
    unfold memL at h
    obtain ⟨b, -, h⟩ := List.mem_flatMap.1 h
    obtain ⟨u, hu, rfl⟩ := List.mem_map.1 h
    rw [List.length_cons, memL_word o n _ u hu]
/-- Those of n+1 bytes whose first is below c. -/
def memTo (o : Option AM) (n : Nat) (q : Int) (c : Nat) : List (List Nat) := (List.range c).flatMap fun b => (memL o n (stepM o q b)).map (b :: ·)
theorem memTo_all (o : Option AM) (n : Nat) (q : Int) : memTo o n q 256 = memL o (n + 1) q := rfl
theorem memTo_succ (o : Option AM) (n : Nat) (q : Int) (c : Nat) : memTo o n q (c + 1) = memTo o n q c ++ (memL o n (stepM o q c)).map (c :: ·) := by
  unfold memTo
  rw [List.range_succ, List.flatMap_append, List.flatMap_cons, List.flatMap_nil, List.append_nil]
theorem memTo_pre (o : Option AM) (n : Nat) (q : Int) {c d : Nat} (h : c ≤ d) : ∃ r, memTo o n q d = memTo o n q c ++ r := by
  obtain ⟨e, rfl⟩ := Nat.exists_eq_add_of_le h
  induction e with
  | zero => exact ⟨[], by simp⟩
  | succ e ih =>
    obtain ⟨r, hr⟩ := ih (by omega)
    exact ⟨r ++ (memL o n (stepM o q (c + e : Nat))).map ((c + e) :: ·), by rw [← Nat.add_assoc, memTo_succ, hr, List.append_assoc]⟩
def intsB (us : List Nat) : List Int := us.map fun (b : Nat) => (b : Int)
theorem intsB_len (us : List Nat) : (intsB us).length = us.length := by unfold intsB; simp
theorem intsB_snoc (us : List Nat) (c : Nat) : intsB us ++ [(c : Int)] = intsB (us ++ [c]) := by unfold intsB; simp
/-- A list of bytes, a text. -/
theorem conv_txt {B : Nat → Prop} {H0 H : Heap} {ps : List Pc} {a : Option Addr} {cap : Nat} {us : List Nat} {K : Value → Heap → Prop} (st : StB B H0 H ps) (i : Nat) (hp : ps[i]? = some (pS tB8 5 a us.length cap (intsB us)))
    (k : K (.string (txt us)) H) : VEff Try.prog (convert 48 9 (.slice a us.length cap)) H K := by
  obtain ⟨cs, ⟨hcl, hcase⟩, hr⟩ := (st.at_ i hp).1
  rcases hcase with ⟨he, hn⟩ | ⟨b, c, l, he, -, hb, hnc, hcm, hll, htk⟩
  · injection he with e1 e2 e3
    subst e1; subst e3
    rw [intsB_len] at hn
    obtain rfl := List.eq_nil_of_length_eq_zero hn
    exact vb2s0 rfl rfl rfl k
  · injection he with e1 e2 e3
    subst e1; subst e3
    have hd : SlD tB8 (Old H) H (some ⟨b, 0, none⟩) cap (intsB us) := by
      have := st.view i hp
      exact this
    refine vb2s us rfl rfl rfl (fun j x hx => ?_) rfl k
    obtain ⟨b', o', c', e1, h1, h2, h3⟩ := hd.get (i := j) (x := (x : Int)) (by unfold intsB; rw [List.getElem?_map, hx]; rfl)
    obtain ⟨rfl, -⟩ := h3
    have := h2.one
    injection e1 with e1
    injection e1 with e4 e5
    subst e4; subst e5
    rw [show 0 + j * tB8.size = 0 + j by rw [show j * tB8.size = j from Nat.mul_one j]] at this
    exact this
/-- What a call of yield does: the word is put to the others, while there are fewer than N; then it says no. -/
def YOk (l N : Nat) (Q Qx : List (List Nat) → Pc → Prop) : Prop :=
  ∀ {B : Nat → Prop} {H0 H : Heap} {ps : List Pc} (st : StB B H0 H ps) (i : Nat) (p : Pc) (pre : List (List Nat)) (w : List Nat), ps[i]? = some p → Q pre p → pre.length ≤ N → w.length ≤ 64 →
    VRound Try.prog l #[.string (txt w)] H fun v H' => (pre.length < N ∧ v = .bool true ∧ ∃ p', Q (pre ++ [w]) p' ∧ StB B H0 H' (ps.set i p')) ∨ (pre.length = N ∧ v = .bool false ∧ ∃ p', Qx pre p' ∧ StB B H0 H' (ps.set i p'))
theorem VRound_mono {P : Program} {l : Nat} {args : Array Value} {H : Heap} {K K' : Value → Heap → Prop} (h : VRound P l args H K) (k : ∀ v H', K v H' → K' v H') : VRound P l args H K' :=
  ⟨fun w hw => by
    obtain ⟨f, t, a, b, h1, h2⟩ := h.out w hw
    exact ⟨f, t, a, b, h1, h2.mono fun e w' ⟨v, h3, h4, h5⟩ => ⟨v, h3, h4, k _ _ h5⟩⟩⟩
/-- How the walk ends. -/
def WEnd (va : Value) (o : Option AM) (pb N : Nat) (Q Qx : List (List Nat) → Pc → Prop) (B : Nat → Prop) (H0 : Heap) (rest : List Pc) (all : List (List Nat)) (v : Value) (H' : Heap) : Prop :=
  ∃ F L p, 1 ≤ L ∧ L ≤ 65 ∧ StB B H0 H' (pTal F va o pb L :: p :: rest) ∧ ((v = .bool true ∧ all.length ≤ N ∧ Q all p) ∨ (v = .bool false ∧ N < all.length ∧ Qx (all.take N) p))
set_option maxHeartbeats 8000000 in
theorem walk_c {S B : Nat → Prop} {H0 : Heap} {va : Value} {o : Option AM} {ls : List Nat} {l N pb : Nat} {Q Qx : List (List Nat) → Pc → Prop} (hS : ∀ k, S k → B k) (hv : AutoV S H0 va o) (hc : CellsOk o ls) (hy : YOk l N Q Qx) :
    ∀ (k : Nat), k ≤ 64 → ∀ {H : Heap} {rest : List Pc} {F : Nat → Prop} {L q : Nat} {a : Option Addr} {cap : Nat} {us : List Nat} {p : Pc} {pre : List (List Nat)}
      (st : StB B H0 H (pTal F va o pb L :: p :: pS tB8 5 a us.length cap (intsB us) :: rest)), 1 ≤ L → L ≤ 65 → q < stN o → Q pre p → pre.length ≤ N → us.length + k ≤ 64 →
      FnOk Try.prog 82 #[.pointer (some ⟨pb, 0, none⟩), .int .i64 (q : Int), .int .i64 (k : Int), .slice a us.length cap, .func (.yield l) #[] #[]] H
        (WEnd va o pb N Q Qx B H0 (pS tB8 5 a us.length cap (intsB us) :: rest) (pre ++ (memL o k (q : Int)).map (us ++ ·))) := fun k => by
  induction k with
  | zero =>
    intro hk H rest F L q a cap us p pre st hL1 hL2 hq hQ hpre has
    have hst := stepIn_ hv
    have hcnt : cntP o 0 (q : Int) = min (wN o 0 (q : Int)) TM := cnt_eq hc hst 0 (q : Int) (by omega) (by omega)
    refine FnOk.of_vcI Try.func82 rfl (Try.call82 _) ?_
    (conv => whnf); refine from_v (q := q) (n := 0) st 0 rfl hS (hv.frame (st.old.mono hS)) hL1 hL2 rfl rfl (by omega) hq fun F2 H2 st2 => ?_
    rw [hcnt]
    have hml := memL_len o 0 (q : Int)
    by_cases h0 : wN o 0 (q : Int) = 0
    · have d0 : (((min (wN o 0 (q : Int)) TM : Nat) : Int) == 0) = true := by rw [h0]; rfl
      rw [h0] at hml
      have hnil := List.eq_nil_of_length_eq_zero hml
      (conv => whnf); rw [d0]
      (conv => whnf); refine VRet.nil ?_
      (conv => whnf)
      rw [hnil, List.map_nil, List.append_nil]
      exact ⟨F2, _, p, by omega, by omega, st2, .inl ⟨rfl, hpre, hQ⟩⟩
    · have d0 : (((min (wN o 0 (q : Int)) TM : Nat) : Int) == 0) = false := beq_eq_false_iff_ne.2 (by unfold TM; omega)
      have hmem : memL o 0 (q : Int) = [[]] := by
        have : memL o 0 (q : Int) = if finM o (q : Int) then [[]] else [] := rfl
        rw [this] at hml ⊢
        split
        · rfl
        · rename_i hf
          rw [if_neg hf] at hml
          exact absurd hml.symm h0
      (conv => whnf); rw [d0]
      (conv => whnf); refine conv_txt st2 2 rfl ?_
      (conv => whnf); refine VRound_mono (hy st2 1 p pre us rfl hQ hpre (by omega)) fun v H3 h3 => ?_
      rw [hmem, List.map_cons, List.map_nil, List.append_nil]
      rcases h3 with ⟨hlt, rfl, p', hQ', st3⟩ | ⟨heq, rfl, p', hQ', st3⟩
      · (conv => whnf); refine VRet.nil ?_
        (conv => whnf)
        exact ⟨F2, _, p', by omega, by omega, st3, .inl ⟨rfl, by simp; omega, hQ'⟩⟩
      · (conv => whnf); refine VRet.nil ?_
        (conv => whnf)
        refine ⟨F2, _, p', by omega, by omega, st3, .inr ⟨rfl, by simp; omega, ?_⟩⟩
        rw [← heq, List.take_left]
        exact hQ'
  | succ k ih =>
    intro hk H rest F L q a cap us p pre st hL1 hL2 hq hQ hpre has
    have hst := stepIn_ hv
    have hcnt : cntP o (k + 1) (q : Int) = min (wN o (k + 1) (q : Int)) TM := cnt_eq hc hst (k + 1) (q : Int) (by omega) (by omega)
    have hml := memL_len o (k + 1) (q : Int)
    generalize wN o (k + 1) (q : Int) = W at hcnt hml
    refine FnOk.of_vcI Try.func82 rfl (Try.call82 _) ?_
    (conv => whnf); refine from_v (q := q) (n := k + 1) st 0 rfl hS (hv.frame (st.old.mono hS)) hL1 hL2 rfl rfl (by omega) hq fun F2 H2 st2 => ?_
    rw [hcnt]
    by_cases h0 : W = 0
    · have d0 : (((min W TM : Nat) : Int) == 0) = true := by rw [h0]; rfl
      rw [h0] at hml
      have hnil := List.eq_nil_of_length_eq_zero hml
      (conv => whnf); rw [d0]
      (conv => whnf); refine VRet.nil ?_
      (conv => whnf)
      rw [hnil, List.map_nil, List.append_nil]
      exact ⟨F2, _, p, by omega, by omega, st2, .inl ⟨rfl, hpre, hQ⟩⟩
    · have d0 : (((min W TM : Nat) : Int) == 0) = false := beq_eq_false_iff_ne.2 (by unfold TM; omega)
      (conv => whnf); rw [d0]
      (conv => whnf)
      refine VLoopD.mk [23] (fun c : Nat => [.int .i64 (c : Int)]) (fun c ds H3 => ds = [] ∧ c ≤ 256 ∧ (pre ++ (memTo o k (q : Int) c).map (us ++ ·)).length ≤ N ∧ ∃ F3 L3 p3, 1 ≤ L3 ∧ L3 ≤ 65 ∧ Q (pre ++ (memTo o k (q : Int) c).map (us ++ ·)) p3 ∧
        StB B H0 H3 (pTal F3 va o pb L3 :: p3 :: pS tB8 5 a us.length cap (intsB us) :: rest)) (fun c _ => 256 - c) ?_ ?_
      · (conv => whnf)
        exact ⟨0, rfl, rfl, by omega, by simpa [memTo] using hpre, F2, _, p, by omega, by omega, by simpa [memTo] using hQ, st2⟩
      · rintro c _ H3 junk3 ⟨rfl, hc256, hlen, F3, L3, p3, hL31, hL32, hQ3, st3⟩
        (conv => whnf); refine VIte.mk (fun hz => ?_) (fun hz => ?_) <;> simp only [decide_eq_true_eq, decide_eq_false_iff_not] at hz
        · obtain ⟨-, ca, cc, ra, rc, S', C, hblk, -⟩ := st3.at_ 0 rfl
          (conv => whnf); refine fa fl131_0 ?_
          (conv => whnf); refine ld1 (v := va) ct31 (by rw [hblk.cell]; rfl) trivial ?_
          (conv => whnf); rw [w8 (x := (c : Int)) (by omega) (by omega)]
          (conv => whnf); refine pures (step_p (fun k hk => st3.up (hS k hk)) (hv.frame (st3.old.mono hS)) (show c < 256 by omega)) fun H4 ha4 => ?_
          have st4 := st3.call ha4
          have hr := hst (q : Int) c (by omega) (by omega) (by omega)
          have hsu := memTo_succ o k (q : Int) c
          obtain ⟨r, hr2⟩ := memTo_pre o k (q : Int) (c := c + 1) (d := 256) (by omega)
          obtain ⟨t, ht⟩ := Int.eq_ofNat_of_zero_le hr.1
          rw [ht] at hr hsu ⊢
          (conv => whnf); rw [w64 (x := ((k + 1 : Nat) : Int) - 1) (by omega) (by omega)]
          rw [show ((k + 1 : Nat) : Int) - 1 = (k : Int) by omega]
          (conv => whnf); rw [w8 (x := (c : Int)) (by omega) (by omega)]
          (conv => whnf); refine vbuild1 sl48 [.int .u8 (c : Int)] rfl rfl (by decide) (by decide) ?_
          intro q5 H5 hq5 hs5 hb5 ha5
          have st5 := st4.skip hq5 ha5
          have e5 : us.length + 1 = (us ++ [c]).length := by simp
          have eA : (pre ++ (memTo o k (q : Int) c).map (us ++ ·)) ++ (memL o k (t : Int)).map ((us ++ [c]) ++ ·) = pre ++ (memTo o k (q : Int) (c + 1)).map (us ++ ·) := by
            rw [hsu, List.map_append, List.map_map, List.append_assoc]
            congr 2
            refine List.map_congr_left fun w _ => ?_
            simp
          have eB : pre ++ (memL o (k + 1) (q : Int)).map (us ++ ·) = (pre ++ (memTo o k (q : Int) (c + 1)).map (us ++ ·)) ++ r.map (us ++ ·) := by
            rw [← memTo_all, hr2, List.map_append, List.append_assoc]
          (conv => whnf); refine push1 st5 sl48 hb5 ⟨rfl, inU8 (show c < 256 by omega)⟩ rfl (by rw [intsB_len]; omega) (by decide) (fun H6 st6 => ?_) (fun a6 c6 H6 st6 => ?_)
          case' refine_1 =>
            rw [intsB_snoc, e5] at st6
            rw [e5]
            (conv => whnf); refine VCall.mk (ih (by omega) st6 hL31 hL32 (show t < stN o by omega) hQ3 hlen (by simp; omega)) ?_
            rintro v H7 ⟨F7, L7, p7, hL71, hL72, st7, hcase⟩
            have st8 := (intsB_snoc us c ▸ st7).pop1
            rw [intsB_len] at st8
          case' refine_2 =>
            rw [intsB_snoc, e5] at st6
            rw [e5]
            (conv => whnf); refine VCall.mk (ih (by omega) st6 hL31 hL32 (show t < stN o by omega) hQ3 hlen (by simp; omega)) ?_
            rintro v H7 ⟨F7, L7, p7, hL71, hL72, st7, hcase⟩
            have st8 := st7.sub (List.Sublist.cons_cons _ (List.Sublist.cons_cons _ (List.sublist_cons_self _ _)))
          all_goals
            rw [eA] at hcase
            rcases hcase with ⟨rfl, hlen7, hQ7⟩ | ⟨rfl, hlen7, hQ7⟩
            · (conv => whnf); rw [w64 (x := (c : Int) + 1) (by omega) (by omega)]
              exact ⟨rfl, c + 1, by simp, ⟨rfl, by omega, hlen7, F7, L7, p7, hL71, hL72, hQ7, st8⟩, by omega⟩
            · (conv => whnf); refine VRet.nil ?_
              (conv => whnf)
              refine ⟨F7, L7, p7, hL71, hL72, st8, .inr ⟨rfl, ?_, ?_⟩⟩
              · rw [eB, List.length_append]; omega
              · rw [eB, List.take_append_of_le_length (by omega)]; exact hQ7
        · obtain rfl : c = 256 := by omega
          (conv => whnf); refine VRet.nil ?_
          (conv => whnf)
          exact ⟨F3, L3, p3, hL31, hL32, st3, .inl ⟨rfl, hlen, hQ3⟩⟩
end Go.Proofs.Ytkgmhkcncemmkaa
