/- Parts of the proof: PLg2, PDetB, PNet05, PDCa, PLg7, PLg3, PLg4, PLg5, PLg6, PLg8, PAut06, PMet1, PMet2, PTab1, PTab2, PAut07, PMl1, PMl2, PLa1, PPow6, PLaid6, VOpen, POpenS, POpen5, VTop, PTabIn -/
import Derived.Test.YtfbghcpdinlmcaaGreatDoorKLb4
import Derived.Test.YtfbghcpdinlmcaaGreatDoorKLb2
import Derived.Test.YtfbghcpdinlmcaaGreatDoorKLb3
import Derived.Test.YtfbghcpdinlmcaaGreatDoorRows
import Derived.Lib.LaidTab
import Derived.ProofKit
import Derived.Test.YtfbghcpdinlmcaaGreatDoorKLb1
import Derived.OpenShut
import Derived.JoinedCond
import Derived.WideKeyArgs
/- The automaton of a plain text: its sets of states. Plain law. -/
set_option linter.unusedVariables false
set_option linter.unusedSimpArgs false
set_option maxRecDepth 100000
namespace Go.Proofs.YtfbghcpdinlmcaaGreatDoor
open Go.VC
theorem oneS_bit {c b : Nat} (hb : b < 256) : (oneS c).getLsbD b = decide (b = c) := by
  unfold oneS ofB
  simp only [List.foldl_cons, List.foldl_nil]
  rw [BitVec.getLsbD_or, BitVec.getLsbD_twoPow]
  rw [Bool.eq_iff_iff]
  simp
  constructor
  · rintro ⟨-, h⟩; exact h.symm
  · rintro rfl; exact ⟨hb, rfl⟩
/-- The edges of a text's automaton. -/
theorem text_edges : ∀ (l : List Nat), l ≠ [] → stM (textR l) = 2 * l.length ∧ (bldM (textR l) 0).1 = 0 ∧ (bldM (textR l) 0).2.1 = 2 * l.length - 1 ∧
    ∀ e, e ∈ (bldM (textR l) 0).2.2 ↔ (∃ (i c : Nat), l[i]? = some c ∧ e = setE (2 * i) (2 * i + 1) (oneS c)) ∨ ∃ i : Nat, i + 1 < l.length ∧ e = silE (2 * i + 1) (2 * i + 2) := fun l => by
  induction l using snocInd with
  | h0 => exact fun h => absurd rfl h
  | hs l c ih =>
    intro _
    by_cases hl : l = []
    · subst hl
      refine ⟨rfl, rfl, rfl, fun e => ?_⟩
      show e ∈ [setE 0 1 (oneS c)] ↔ _
      rw [List.mem_singleton]
      constructor
      · rintro rfl
        exact .inl ⟨0, c, rfl, rfl⟩
      · rintro (⟨i, d, h1, rfl⟩ | ⟨i, h1, rfl⟩)
        · have := (List.getElem?_eq_some_iff.1 h1).1
          obtain rfl : i = 0 := by simpa using this
          cases h1
          rfl
        · simp at h1
    · obtain ⟨h1, h2, h3, h4⟩ := ih hl
      have hpos : 0 < l.length := List.length_pos_iff.2 hl
      rw [textR_snoc hl]
      refine ⟨?_, ?_, ?_, fun e => ?_⟩
      · show stM (textR l) + 2 = _
        rw [h1, List.length_append, List.length_singleton]; omega
      · exact h2
      · show 0 + stM (textR l) + 1 = _
        rw [h1, List.length_append, List.length_singleton]; omega
      · show e ∈ (bldM (textR l) 0).2.2 ++ [setE (0 + stM (textR l)) (0 + stM (textR l) + 1) (oneS c)] ++ [silE (bldM (textR l) 0).2.1 (0 + stM (textR l))] ↔ _
        rw [List.mem_append, List.mem_append, List.mem_singleton, List.mem_singleton, h4, h1, h3, Nat.zero_add]
        constructor
        · rintro (((⟨i, d, k1, rfl⟩ | ⟨i, k1, rfl⟩) | rfl) | rfl)
          · exact .inl ⟨i, d, by rw [List.getElem?_append_left (List.getElem?_eq_some_iff.1 k1).1]; exact k1, rfl⟩
          · exact .inr ⟨i, by rw [List.length_append]; omega, rfl⟩
          · exact .inl ⟨l.length, c, by simp, rfl⟩
          · refine .inr ⟨l.length - 1, by rw [List.length_append, List.length_singleton]; omega, ?_⟩
            rw [show 2 * (l.length - 1) + 1 = 2 * l.length - 1 by omega, show 2 * (l.length - 1) + 2 = 2 * l.length by omega]
        · rintro (⟨i, d, k1, rfl⟩ | ⟨i, k1, rfl⟩)
          · by_cases hi : i < l.length
            · rw [List.getElem?_append_left hi] at k1
              exact .inl (.inl (.inl ⟨i, d, k1, rfl⟩))
            · have := (List.getElem?_eq_some_iff.1 k1).1
              rw [List.length_append, List.length_singleton] at this
              obtain rfl : i = l.length := by omega
              simp at k1
              subst k1
              exact .inl (.inr rfl)
          · rw [List.length_append, List.length_singleton] at k1
            by_cases hi : i + 1 < l.length
            · exact .inl (.inl (.inr ⟨i, hi, rfl⟩))
            · obtain rfl : i = l.length - 1 := by omega
              refine .inr ?_
              rw [show 2 * (l.length - 1) + 1 = 2 * l.length - 1 by omega, show 2 * (l.length - 1) + 2 = 2 * l.length by omega]
/-- The states behind i bytes of a text of n. -/
def txS (n i : Nat) : PS := fun q => if n = 0 then q = 0 ∨ q = 1 else (0 < i ∧ q = 2 * (i : Int) - 1) ∨ (i < n ∧ q = 2 * (i : Int))
noncomputable def txL (n i : Nat) : List Int := lstS (txS n i)
theorem txS_rng {n i : Nat} (hn : n ≤ 30000) (hi : i ≤ n) : ∀ q, txS n i q → 0 ≤ q ∧ q < 65536 := fun q h => by
  unfold txS at h
  split at h
  · omega
  · omega
theorem txL_mem {n i : Nat} (hn : n ≤ 30000) (hi : i ≤ n) (q : Int) : q ∈ txL n i ↔ txS n i q := lstS_mem (txS_rng hn hi) q
theorem txL_ne {n i j : Nat} (hn : n ≤ 30000) (hi : i < j) (hj : j ≤ n) : txL n i ≠ txL n j := fun e => by
  have h1 : (2 * (i : Int)) ∈ txL n i := (txL_mem hn (by omega) _).2 (by unfold txS; rw [if_neg (by omega)]; exact .inr ⟨by omega, rfl⟩)
  rw [e, txL_mem hn hj] at h1
  unfold txS at h1
  rw [if_neg (by omega)] at h1
  omega
theorem txL_nil {n i : Nat} (hn : n ≤ 30000) (hi : i ≤ n) : txL n i ≠ [] := fun e => by
  have h1 : ∃ q, q ∈ txL n i := by
    by_cases h0 : n = 0
    · exact ⟨0, (txL_mem hn hi _).2 (by unfold txS; rw [if_pos h0]; exact .inl rfl)⟩
    · by_cases h : i < n
      · exact ⟨2 * (i : Int), (txL_mem hn hi _).2 (by unfold txS; rw [if_neg h0]; exact .inr ⟨h, rfl⟩)⟩
      · exact ⟨2 * (i : Int) - 1, (txL_mem hn hi _).2 (by unfold txS; rw [if_neg h0]; exact .inl ⟨by omega, rfl⟩)⟩
  obtain ⟨q, hq⟩ := h1
  rw [e] at hq
  cases hq
section
variable {l : List Nat}
theorem text_nil : nfaOf (textR []) = ⟨2, 0, 1, [silE 0 1]⟩ := rfl
theorem text_st (hl : l ≠ []) : (nfaOf (textR l)).st = 2 * (l.length : Int) := by
  show ((stM (textR l) : Nat) : Int) = _
  rw [(text_edges l hl).1]; omega
theorem text_has (hn : l.length ≤ 30000) {q : Int} : (nfaOf (textR l)).has q = true ↔ 0 ≤ q ∧ q < if l = [] then 2 else 2 * (l.length : Int) := by
  rw [NfM.has_iff]
  by_cases hl : l = []
  · subst hl
    rw [text_nil]
    simp
  · rw [text_st hl, if_neg hl]
    constructor
    · rintro ⟨h1, h2, -⟩; exact ⟨h1, h2⟩
    · rintro ⟨h1, h2⟩; exact ⟨h1, h2, by omega⟩
theorem text_edge (hl : l ≠ []) (e : EdM) : e ∈ (nfaOf (textR l)).edges ↔ (∃ (i c : Nat), l[i]? = some c ∧ e = setE (2 * i) (2 * i + 1) (oneS c)) ∨ ∃ i : Nat, i + 1 < l.length ∧ e = silE (2 * i + 1) (2 * i + 2) := (text_edges l hl).2.2.2 e
theorem text_beg (hn : l.length ≤ 30000) (q : Int) : begS (nfaOf (textR l)) q ↔ txS l.length 0 q := by
  by_cases hl : l = []
  · subst hl
    unfold txS
    rw [if_pos (show ([] : List Nat).length = 0 from rfl)]
    constructor
    · refine clS_least (Y := fun q => q = 0 ∨ q = 1) (fun q h => .inl h.1) (fun e he hs ht h => ?_) q
      rw [text_nil, List.mem_singleton] at he
      subst he
      exact .inr rfl
    · have h0 : begS (nfaOf (textR [])) 0 := clS_in ⟨rfl, (text_has (by simp)).2 (by decide)⟩
      rintro (rfl | rfl)
      · exact h0
      · exact clS_shut _ _ (silE 0 1) (List.mem_singleton.2 rfl) rfl ((text_has (by simp)).2 (by decide)) h0
  · have hpos : 0 < l.length := List.length_pos_iff.2 hl
    have h0 : (nfaOf (textR l)).start = 0 := by
      show (((bldM (textR l) 0).1 : Nat) : Int) = 0
      rw [(text_edges l hl).2.1]; rfl
    unfold txS
    rw [if_neg (by omega)]
    constructor
    · intro h
      refine .inr ⟨hpos, ?_⟩
      refine clS_least (Y := fun q => q = 2 * ((0 : Nat) : Int)) (fun q h => by rw [h.1, h0]; rfl) (fun e he hs ht h => ?_) q h
      rcases (text_edge hl e).1 he with ⟨i, c, -, rfl⟩ | ⟨i, -, rfl⟩
      · cases hs
      · have h : ((2 * i + 1 : Nat) : Int) = 2 * ((0 : Nat) : Int) := h
        omega
    · rintro (⟨h, -⟩ | ⟨-, rfl⟩)
      · omega
      · exact clS_in ⟨by rw [h0]; rfl, by rw [h0]; exact (text_has hn).2 ⟨Int.le_refl _, by rw [if_neg hl]; omega⟩⟩
theorem text_go (hn : l.length ≤ 30000) (hb8 : ∀ c ∈ l, c < 256) {i b : Nat} (hi : i ≤ l.length) (hb : b < 256) (q : Int) : goS (nfaOf (textR l)) (txS l.length i) b q ↔ l[i]? = some b ∧ txS l.length (i + 1) q := by
  by_cases hl : l = []
  · subst hl
    simp only [List.getElem?_nil, reduceCtorEq, false_and, iff_false]
    intro h
    refine clS_least (Y := fun _ => False) (fun q h => ?_) (fun e he hs ht h => h) q h
    obtain ⟨e, he, hs, -⟩ := h
    rw [text_nil, List.mem_singleton] at he
    subst he
    cases hs
  · have hpos : 0 < l.length := List.length_pos_iff.2 hl
    have hle := text_edge hl
    constructor
    · intro h
      refine clS_least (Y := fun q => l[i]? = some b ∧ txS l.length (i + 1) q) (fun q h => ?_) (fun e he hs ht h => ?_) q h
      · obtain ⟨e, he, hs, hbit, hX, hh, rfl⟩ := h
        rcases (hle e).1 he with ⟨j, c, hj, rfl⟩ | ⟨j, -, rfl⟩
        · have hbit : (oneS c).getLsbD b = true := hbit
          rw [oneS_bit hb, decide_eq_true_eq] at hbit
          subst hbit
          unfold txS at hX
          rw [if_neg (by omega)] at hX
          have hX : (0 < i ∧ ((2 * j : Nat) : Int) = 2 * (i : Int) - 1) ∨ (i < l.length ∧ ((2 * j : Nat) : Int) = 2 * (i : Int)) := hX
          obtain rfl : j = i := by omega
          refine ⟨hj, ?_⟩
          unfold txS
          rw [if_neg (by omega)]
          refine .inl ⟨by omega, ?_⟩
          show ((2 * j + 1 : Nat) : Int) = 2 * ((j + 1 : Nat) : Int) - 1
          omega
        · cases hs
      · obtain ⟨h1, h2⟩ := h
        refine ⟨h1, ?_⟩
        rcases (hle e).1 he with ⟨j, c, hj, rfl⟩ | ⟨j, hj, rfl⟩
        · cases hs
        · unfold txS at h2 ⊢
          rw [if_neg (by omega)] at h2 ⊢
          have h2 : (0 < i + 1 ∧ ((2 * j + 1 : Nat) : Int) = 2 * ((i + 1 : Nat) : Int) - 1) ∨ (i + 1 < l.length ∧ ((2 * j + 1 : Nat) : Int) = 2 * ((i + 1 : Nat) : Int)) := h2
          obtain rfl : j = i := by omega
          refine .inr ⟨hj, ?_⟩
          show ((2 * j + 2 : Nat) : Int) = 2 * ((j + 1 : Nat) : Int)
          omega
    · rintro ⟨h1, h2⟩
      have hil := (List.getElem?_eq_some_iff.1 h1).1
      have hto : (nfaOf (textR l)).has (((2 * i + 1 : Nat) : Int)) = true := (text_has hn).2 ⟨by omega, by rw [if_neg hl]; omega⟩
      have hbase : goS (nfaOf (textR l)) (txS l.length i) b (((2 * i + 1 : Nat) : Int)) := clS_in ⟨setE (2 * i) (2 * i + 1) (oneS b), (hle _).2 (.inl ⟨i, b, h1, rfl⟩), rfl, by
        show (oneS b).getLsbD b = true
        rw [oneS_bit hb]; simp, by
        show txS l.length i (((2 * i : Nat) : Int))
        unfold txS
        rw [if_neg (by omega)]
        exact .inr ⟨hil, by omega⟩, hto, rfl⟩
      unfold txS at h2
      rw [if_neg (by omega)] at h2
      rcases h2 with ⟨-, h2⟩ | ⟨h3, h2⟩
      · rw [h2, show 2 * ((i + 1 : Nat) : Int) - 1 = ((2 * i + 1 : Nat) : Int) by omega]
        exact hbase
      · rw [h2, show 2 * ((i + 1 : Nat) : Int) = ((2 * i + 2 : Nat) : Int) by omega]
        exact clS_shut _ _ (silE (2 * i + 1) (2 * i + 2)) ((hle _).2 (.inr ⟨i, h3, rfl⟩)) rfl ((text_has hn).2 ⟨by
          show (0 : Int) ≤ ((2 * i + 2 : Nat) : Int); omega, by
          show ((2 * i + 2 : Nat) : Int) < _
          rw [if_neg hl]; omega⟩) hbase
theorem text_begL (hn : l.length ≤ 30000) : begL (nfaOf (textR l)) = txL l.length 0 := by
  show lstS _ = lstS _
  rw [show begS (nfaOf (textR l)) = txS l.length 0 from funext fun q => propext (text_beg hn q)]
theorem text_step (hn : l.length ≤ 30000) (hb8 : ∀ c ∈ l, c < 256) {i b : Nat} (hi : i ≤ l.length) (hb : b < 256) : stepA (nfaOf (textR l)) (txL l.length i) b = if l[i]? = some b then txL l.length (i + 1) else [] := by
  unfold stepA
  have e : (fun q => q ∈ txL l.length i) = txS l.length i := funext fun q => propext (txL_mem hn hi q)
  rw [e]
  have e2 : goS (nfaOf (textR l)) (txS l.length i) b = fun q => l[i]? = some b ∧ txS l.length (i + 1) q := funext fun q => propext (text_go hn hb8 hi hb q)
  rw [e2]
  split
  · rename_i h
    unfold txL
    congr 1
    funext q
    exact propext ⟨fun h => h.2, fun h' => ⟨h, h'⟩⟩
  · rename_i h
    unfold lstS
    rw [List.filter_eq_nil_iff]
    intro q _
    simp [h]
theorem nil_step (a : NfM) (b : Nat) : stepA a [] b = [] := by
  have h : ∀ q, goS a (fun q => q ∈ ([] : List Int)) b q → False := clS_least (Y := fun _ => False) (fun q ⟨e, _, _, _, hx, _⟩ => by cases hx) fun e _ _ _ h => h
  rw [List.eq_nil_iff_forall_not_mem]
  intro q hq
  exact h q ((lstS_mem (has_rng (goS_has a _ b)) q).1 hq)
end
theorem nodup_sub {K : Type} [DecidableEq K] : ∀ {L M : List K}, L.Nodup → (∀ x ∈ L, x ∈ M) → L.length ≤ M.length
  | [], M, _, _ => Nat.zero_le _
  | x :: L, M, hn, h => by
    have h1 := List.nodup_cons.1 hn
    have h2 := nodup_sub (M := M.erase x) h1.2 fun y hy => (List.mem_erase_of_ne fun e : y = x => h1.1 (by rw [← e]; exact hy)).2 (h y (by simp [hy]))
    have h3 := h x (by simp)
    have h4 := List.length_erase_of_mem h3
    have h5 := List.length_pos_of_mem h3
    rw [List.length_cons]
    omega
/-- All sets that words lead to. -/
noncomputable def txAll (n : Nat) : List (List Int) := [] :: (List.range (n + 1)).map (txL n)
theorem txAll_len (n : Nat) : (txAll n).length = n + 2 := by simp [txAll]
theorem txAll_nd {n : Nat} (hn : n ≤ 30000) : (txAll n).Nodup := by
  unfold txAll
  refine List.nodup_cons.2 ⟨fun h => ?_, ?_⟩
  · obtain ⟨i, hi, e⟩ := List.mem_map.1 h
    have := List.mem_range.1 hi
    exact txL_nil hn (by omega) e
  · unfold List.Nodup
    rw [List.pairwise_map]
    refine List.pairwise_iff_getElem.2 fun i j hi hj hij => ?_
    rw [List.length_range] at hi hj
    rw [List.getElem_range, List.getElem_range]
    exact txL_ne hn hij (by omega)
theorem txAll_in {n i : Nat} (hi : i ≤ n) : txL n i ∈ txAll n := List.mem_cons_of_mem _ (List.mem_map.2 ⟨i, List.mem_range.2 (by omega), rfl⟩)
section
variable {l : List Nat}
theorem txAll_step (hn : l.length ≤ 30000) (hb8 : ∀ c ∈ l, c < 256) {x : List Int} (hx : x ∈ txAll l.length) {b : Nat} (hb : b < 256) : stepA (nfaOf (textR l)) x b ∈ txAll l.length := by
  rcases List.mem_cons.1 hx with rfl | hx
  · rw [nil_step]; exact List.mem_cons_self
  · obtain ⟨i, hi, rfl⟩ := List.mem_map.1 hx
    have hi := List.mem_range.1 hi
    rw [text_step hn hb8 (by omega) hb]
    split
    · rename_i h
      have := (List.getElem?_eq_some_iff.1 h).1
      exact txAll_in (by omega)
    · exact List.mem_cons_self
end
end Go.Proofs.YtfbghcpdinlmcaaGreatDoor
/- dfa.Determinize with a budget that may not be: the walk. -/
set_option linter.unusedVariables false
set_option linter.unusedSimpArgs false
set_option maxRecDepth 100000
namespace Go.Proofs.YtfbghcpdinlmcaaGreatDoor
open Go.VC
theorem determinizeBad_p {S : Nat → Prop} {H : Heap} {v : Value} {a : NfM} {b : Int} (h : NfV S H v a) (hb : b < 1 ∨ 4096 < b) :
    Pure Tryz.prog 38 #[v, .int .i64 b] H (.tuple #[.pointer none, .int .i64 2]) := by
  refine FnOk.of_vc Tryz.func38 rfl (Tryz.call38 _) ?_
  (conv => whnf); refine nf_box h fun ea ec he0 h1 => ?_
  subst he0
  intro p H1 hp hs1 hb1 ha1
  have st1 := (St.nil H).box hp hs1 hb1 ha1
  by_cases hl : b < 1
  · have d1 : decide (b < (1 : Int)) = true := decide_eq_true hl
    (conv => whnf); rw [d1]
    (conv => whnf)
    exact ⟨rfl, st1.old⟩
  · have d1 : decide (b < (1 : Int)) = false := decide_eq_false hl
    have d2 : decide ((4096 : Int) < b) = true := decide_eq_true (by omega)
    (conv => whnf); rw [d1]
    (conv => whnf); rw [d2]
    (conv => whnf)
    exact ⟨rfl, st1.old⟩
end Go.Proofs.YtfbghcpdinlmcaaGreatDoor
/- Law 5: nets as automata: the walks of machine and doc. -/
set_option linter.unusedVariables false
set_option linter.unusedSimpArgs false
set_option maxRecDepth 100000
namespace Go.Proofs.YtfbghcpdinlmcaaGreatDoor
open Go.VC
end Go.Proofs.YtfbghcpdinlmcaaGreatDoor
/- Determinize of the program and of the document, for any budget: what the calls give. -/
set_option linter.unusedVariables false
set_option linter.unusedSimpArgs false
set_option maxRecDepth 100000
namespace Go.Proofs.YtfbghcpdinlmcaaGreatDoor
open Go.VC
attribute [local irreducible] mRun gRun atRun
/-- The error's number, or the sets. -/
noncomputable def detB (a : NfM) (b : Int) : Except Int (List (List Int)) := if b < 1 ∨ 4096 < b then .error 2 else match detN a b.toNat with
  | none => .error 40
  | some F => .ok F
theorem detB_bad {a : NfM} {b : Int} (h : b < 1 ∨ 4096 < b) : detB a b = .error 2 := by unfold detB; rw [if_pos h]
theorem detB_in {a : NfM} {b : Nat} (h1 : 1 ≤ b) (h2 : b ≤ 4096) : detB a (b : Int) = match detN a b with
  | none => .error 40
  | some F => .ok F := by
  unfold detB
  rw [if_neg (by omega), Int.toNat_natCast]
theorem detB_err {a : NfM} {b e : Int} (h : detB a b = .error e) : e ≠ 0 ∧ 0 ≤ e ∧ e ≤ 40 := by
  unfold detB at h
  split at h
  · injection h with h; omega
  · split at h
    · injection h with h; omega
    · cases h
end Go.Proofs.YtfbghcpdinlmcaaGreatDoor
/- nfa.BuildWith with a function; lang.start, Build, Need of plain trees: the walks. (Printed by mklg7.py.) -/
set_option linter.unusedVariables false
set_option linter.unusedSimpArgs false
set_option maxRecDepth 100000
namespace Go.Proofs.YtfbghcpdinlmcaaGreatDoor
open Go.VC
attribute [local irreducible] mRun gRun atRun
set_option maxHeartbeats 4000000 in
theorem buildWithF_c {f : FuncId} {first cap : Array Value} (r : ReM) (hpl : r.plain = true) (hb : r.nodes ≤ 1000000000) (H : Heap) : FnOk Tryz.prog 84 #[nodeV r, .func (.func f) first cap] H fun v H' => BldR H H' r v := by
  rw [nodeV_eq]
  refine FnOk.of_vc Tryz.func84 rfl (Tryz.call84 _) ?_
  (conv => whnf); refine valloc _ [.int .i64 0, .int .i64 0, .int .i64 0, .slice none 0 0] nfa_z rfl ?_
  intro y H1 hy hs1 hb1 ha1
  have st1 := (St.nil H).box hy hs1 hb1 ha1
  (conv => whnf); refine ifneq Tryz.underlying28 ?_
  (conv => whnf); refine VInv.mk (sizeF r) #[nodeP r] (size_m r) (size_p r hb H1) ?_
  rintro _ H2 ⟨rfl, ha2⟩
  have st2 := st1.call ha2
  by_cases hbig : 2000 < r.nodes
  · have d1 : decide ((2000 : Int) < (r.nodes : Int)) = true := decide_eq_true (by omega)
    (conv => whnf); rw [d1]
    (conv => whnf); refine vbuildS Tryz.underlying76 rfl _ nfa_z [.int .i64 0, .int .i64 0, .int .i64 0, .slice none 0 0] rfl ?_
    (conv => whnf); refine stNB (cs := [.int .i64 0, .int .i64 0, .int .i64 0, .slice none 0 0]) st2 0 rfl rfl (Nat.le_refl _) rfl fun H3 st3 => ?_
    (conv => whnf); refine ldN (cs := [.int .i64 0, .int .i64 0, .int .i64 0, .slice none 0 0]) ag76 ((st3.blk 0 rfl).cells fun j v hv => by rw [Nat.zero_add]; exact hv) trivial ?_
    (conv => whnf)
    exact ⟨st3.old, by rw [if_pos hbig]; rfl⟩
  · have d1 : decide ((2000 : Int) < (r.nodes : Int)) = false := decide_eq_false (by omega)
    have hst := stM_nodes r
    have hin := bldM_in r hpl 0
    (conv => whnf); rw [d1]
    (conv => whnf); refine vbuildS Tryz.underlying246 rfl _ bd_z (bdL 0 (.slice none 0 0) (.func (.func f) first cap)) (by kernel_rfl) ?_
    (conv => whnf); refine vbox (bdL 0 (.slice none 0 0) (.func (.func f) first cap)) rfl ?_
    intro bb H3 hbb hs3 hb3 ha3
    have st3 : St H H3 (pB tBd bb (bdL 0 (.slice none 0 0) (.func (.func f) first cap)) :: pS tEd 174 none 0 0 [] :: [pB 76 y [.int .i64 0, .int .i64 0, .int .i64 0, .slice none 0 0]]) := ((st2.box hbb hs3 hb3 ha3).nils tEd 174).pick [1, 2, 0] (by decide)
    have hp := part_c (sub := (.func (.func f) first cap)) (n := 0) (es := []) r hpl st3 (by omega) (by simp only [List.length_nil]; omega)
    rw [nodeV_eq] at hp
    (conv => whnf); refine VCall.mk hp ?_
    rintro _ H4 ⟨rfl, a4, c4, st4⟩
    rw [List.nil_append, Nat.zero_add] at st4
    (conv => whnf); refine fa fl246_0 ?_
    (conv => whnf); refine fa fl76_1 ?_
    (conv => whnf); refine st1B st4 0 ct3 rfl (show 1 < 6 by decide) rfl fun H5 st5 => ?_
    (conv => whnf); refine fa fl246_0 ?_
    (conv => whnf); refine fa fl76_2 ?_
    (conv => whnf); refine st1B st5 0 ct3 rfl (show 2 < 6 by decide) rfl fun H6 st6 => ?_
    (conv => whnf); refine fa fl246_2 ?_
    (conv => whnf); refine ld1 (v := .int .i64 0) ct24 (by rw [(st6.blk 0 rfl).cell]; rfl) trivial ?_
    (conv => whnf); refine fa fl246_0 ?_
    (conv => whnf); refine fa fl76_0 ?_
    (conv => whnf); refine ld1 (v := .int .i64 (stM r : Int)) ct3 (by rw [(st6.blk 0 rfl).cell]; rfl) trivial ?_
    have d2 : decide ((65536 : Int) < (stM r : Int)) = false := decide_eq_false (by omega)
    (conv => whnf); rw [d2]
    (conv => whnf); refine fa fl246_0 ?_
    have hc6 : Cells H6 bb 0 (nfL (nfaOf r) (.slice a4 (nfaOf r).edges.length c4)) := (st6.blk 0 rfl).cells fun j v hv => by
      rw [Nat.zero_add]
      match j, hv with
      | 0, hv => exact hv
      | 1, hv => exact hv
      | 2, hv => exact hv
      | 3, hv => exact hv
    (conv => whnf); refine ldN (cs := nfL (nfaOf r) (.slice a4 (nfaOf r).edges.length c4)) ag76 hc6 trivial ?_
    (conv => whnf); refine stNB (cs := nfL (nfaOf r) (.slice a4 (nfaOf r).edges.length c4)) st6 2 rfl rfl (Nat.le_refl _) rfl fun H7 st7 => ?_
    rw [splice_all (show (nfL (nfaOf r) (.slice a4 (nfaOf r).edges.length c4)).length = 4 from rfl)] at st7
    (conv => whnf); refine ldN (cs := nfL (nfaOf r) (.slice a4 (nfaOf r).edges.length c4)) ag76 ((st7.blk 2 rfl).cells fun j v hv => by rw [Nat.zero_add]; exact hv) trivial ?_
    (conv => whnf)
    exact ⟨st7.old, by rw [if_neg hbig]; exact ⟨a4, c4, rfl, St.own st7 1 rfl⟩⟩
theorem nf_rng2 {r : ReM} (hpl : r.plain = true) (hn : r.nodes ≤ 2000) : (nfaOf r).Rng ∧ (nfaOf r).edges.length ≤ 1048576 := by
  have hst := stM_nodes r
  have hin := bldM_in r hpl 0
  have hlen := bldM_len r hpl 0
  refine ⟨⟨inI64 (by omega), inI64 (by omega), inI64 (by omega)⟩, ?_⟩
  show (bldM r 0).2.2.length ≤ _
  omega
/-- Determinize, with where its automaton comes from. -/
theorem detPm_c {S : Nat → Prop} {H : Heap} {v : Value} {a : NfM} {b : Int} (hS : ∀ k, S k → k < H.size) (h : NfV S H v a) (hpow : PowH Tryz.prog H) :
    FnOk Tryz.prog 38 #[v, .int .i64 b] H fun r H' => Agr (Old H) H H' ∧ match detB a b with
      | .error e => r = .tuple #[.pointer none, .int .i64 e]
      | .ok F => ∃ v, r = .tuple #[v, .int .i64 0] ∧ ∃ (o : AM), AutoV (fun k => H.size ≤ k ∧ k < H'.size) H' v (some o) ∧ Leads5 a F (stepM (some o)) (finM (some o)) ∧ stN (some o) = F.length ∧ IsMade (some o) := by
  by_cases hb : b < 1 ∨ 4096 < b
  · rw [detB_bad hb]
    exact (determinizeBad_p h hb).mono fun r H' ⟨h1, h2⟩ => ⟨h2, h1⟩
  · obtain ⟨m, rfl⟩ := Int.eq_ofNat_of_zero_le (show 0 ≤ b by omega)
    rw [detB_in (by omega) (by omega)]
    refine (determinize_c hS h hpow (budget := m) (by omega) (by omega)).mono fun r H' ⟨h1, h2⟩ => ⟨h1, ?_⟩
    have hA := detA a (most := m) (by omega)
    cases hd : detF m (stepA a) (repsM (setsA a)) (begL a) with
    | none =>
      rw [hd] at h2 hA
      rw [← hA]
      exact h2
    | some q =>
      obtain ⟨F, rows⟩ := q
      rw [hd] at h2 hA
      rw [← hA]
      obtain ⟨v', rfl, hv⟩ := h2
      obtain ⟨k1, k2, k3⟩ := autoA (by omega) (by omega) hd
      rw [k1, if_pos rfl] at hv
      exact ⟨v', rfl, _, hv, k2, k3, ⟨_, _, _, by
        unfold autoOf
        rw [List.length_map, if_pos k1]⟩⟩
theorem st1Blk {P : Program} {t e mb o : Nat} {v : Value} {l : List Value} {H : Heap} {K : Heap → Prop} (hb : Blk H mb e l) (ht : CellT P t) (ho : o < l.length) (hv : v.oneCell' = true)
    (k : ∀ H', Blk H' mb e (l.set o v) → Agr (fun k => k < H.size ∧ k ≠ mb) H H' → H'.size = H.size → K H') : VEffU P (Instr.storeAt t (.pointer (some ⟨mb, o, none⟩)) v) H K := by
  refine VC.st1 ht hb ho hv ?_
  intro H' hb' ha' hs'
  exact k H' hb' (ha'.mono fun k hk => hk.2) hs'
def mkL (b m : Int) : List Value := [.int .i64 b, .int .i64 m]
theorem mk_z : (Tryz.prog.info? 216).bind (·.zero) = some (.agg (mkL 0 0).toArray) := by kernel_rfl
/-- What start answers of a plain tree. -/
def StartR (r : ReM) (b : Int) (H' : Heap) (R : Value) : Prop :=
  if b < 1 ∨ 4096 < b then R = .tuple #[.pointer none, .int .i64 0, .int .i64 2] else
  if 2000 < r.nodes then R = .tuple #[.pointer none, .int .i64 0, .int .i64 24] else
  match detB (nfaOf r) b with
  | .error e => R = .tuple #[.pointer none, .int .i64 0, .int .i64 e]
  | .ok F => ∃ v o, R = .tuple #[v, .int .i64 (F.length : Int), .int .i64 0] ∧ AutoV (Old H') H' v (some o) ∧ Leads5 (nfaOf r) F (stepM (some o)) (finM (some o)) ∧ stN (some o) = F.length ∧ IsMade (some o)
set_option maxHeartbeats 8000000 in
theorem mbuild_c (r : ReM) (hpl : r.plain = true) (hn : r.nodes ≤ 2000) {H : Heap} {mb : Nat} {b : Int} (st : St H H []) (hmb : Blk H mb 216 (mkL b 0)) (hpow : PowH Tryz.prog H) :
    FnOk Tryz.prog 114 #[.pointer (some ⟨mb, 0, none⟩), nodeV r] H fun R H' => Agr (fun k => k < H.size ∧ k ≠ mb) H H' ∧ H.size ≤ H'.size ∧ match detB (nfaOf r) b with
      | .error e => R = .tuple #[.pointer none, .int .i64 e]
      | .ok F => Blk H' mb 216 (mkL b (F.length : Int)) ∧ ∃ v o, R = .tuple #[v, .int .i64 0] ∧ AutoV (fun k => H.size ≤ k ∧ k < H'.size) H' v (some o) ∧ Leads5 (nfaOf r) F (stepM (some o)) (finM (some o)) ∧ stN (some o) = F.length ∧ IsMade (some o) := by
  have hml := hmb.lt
  have hof : ∀ {H' : Heap}, Agr (Old H) H H' → Agr (fun k => k < H.size ∧ k ≠ mb) H H' := fun h => h.mono fun k hk => hk.1
  refine FnOk.of_vc Tryz.func114 rfl (Tryz.call114 _) ?_
  (conv => whnf); refine VCall.mk (buildWithF_c r hpl (by omega) H) ?_
  rintro _ H2 ⟨ha2, hv⟩
  rw [if_neg (by omega)] at hv
  obtain ⟨ea, ec, rfl, hown⟩ := hv
  obtain ⟨ea', ec', e2, st2⟩ := st.got ha2 hown
  injection e2 with e21 e22 e23
  subst e21; subst e23
  (conv => whnf); refine valloc _ [.int .i64 0, .int .i64 0, .int .i64 0, .slice none 0 0] nfa_z rfl ?_
  intro p H3 hp hs3 hb3 ha3
  have st3 := st2.box hp hs3 hb3 ha3
  (conv => whnf); refine stNB (cs := nfL (nfaOf r) (.slice ea (nfaOf r).edges.length ec)) st3 1 rfl rfl (Nat.le_refl _) rfl fun H4 st4 => ?_
  rw [splice_all (show (nfL (nfaOf r) (.slice ea (nfaOf r).edges.length ec)).length = 4 from rfl)] at st4
  have hb := st4.blk 1 rfl
  obtain ⟨hr, hl⟩ := nf_rng2 hpl hn
  have hm4 := hmb.agr st4.old hml
  have hSm : ∀ {G : Heap}, Agr (Old H4) H4 G → Agr (fun k => k < H4.size ∧ k ≠ mb) H4 G := fun h => h.mono fun k hk => hk.1
  have hA4 : ∀ {G : Heap}, Agr (fun k => k < H4.size ∧ k ≠ mb) H4 G → Agr (fun k => k < H.size ∧ k ≠ mb) H G := fun h => (st4.old.mono fun k hk => hk.1).trans (h.mono fun k hk => ⟨old_lt st4.old hk.1, hk.2⟩)
  have hsz4 : H.size ≤ H4.size := old_size st4.old
  (conv => whnf); refine VDraw.heldZ (fun k => k < H4.size ∧ k ≠ mb) [] (sq [0,1,2,3,4] (.f 5 (.f 6 (sq [7,8] (.f 9 (sq [10,11,12] (.f 13 .e))))))) rfl (by kernel_rfl) ?_
  have hpm : p ≠ mb := by
    have := St.ge st4 1 rfl (show (pB 76 p _).foot p from rfl)
    omega
  (conv => whnf); refine nf_load hr hl hb ag76 ⟨hb.lt, hpm⟩ (st4.view 0 rfl) fun v5 hv5 => ?_
  (conv => whnf); refine VC.fa fl216_0 ?_
  (conv => whnf); refine ld1 (v := .int .i64 b) ct3 (by rw [hm4.cell]; rfl) trivial ?_
  refine ⟨Agr.refl _ _, ?_⟩
  (conv => whnf); refine VCall.mk (detPm_c (b := b) (S := Old H4) (fun k hk => hk) hv5 (hpow.agr st4.old)) ?_
  rintro r5 H5 ⟨ha5, hr5⟩
  have hm5 := hm4.agr ha5 hm4.lt
  refine ⟨hSm ha5, ?_⟩
  cases hd : detB (nfaOf r) b with
  | error e =>
    rw [hd] at hr5
    simp only at hr5
    subst hr5
    have he := (detB_err hd).1
    have d1 : (e == 0) = false := beq_eq_false_iff_ne.2 he
    (conv => whnf); refine VCall.mk (R := fun R G => R = .tuple #[.pointer none, .int .i64 e] ∧ G = H5) (FnOk.of_vc Tryz.func161 rfl (Tryz.call161 _) (by
      (conv => whnf); refine VSeq.run ?_
      (conv => whnf); rw [d1]
      (conv => whnf)
      exact ⟨rfl, rfl⟩)) ?_
    rintro _ _ ⟨rfl, rfl⟩
    refine ⟨hSm ha5, ?_⟩
    (conv => whnf)
    refine ⟨hSm ha5, ?_⟩
    (conv => whnf)
    exact ⟨hA4 (hSm ha5), by have := old_size ha5; omega, rfl⟩
  | ok F =>
    rw [hd] at hr5
    obtain ⟨v6, rfl, o, hv6, hL, hN, hMd⟩ := hr5
    have hF := hv6.steps
    have hF1 := hF.n2
    have d1 : ((0 : Int) == 0) = true := rfl
    have hv6' : AutoV (fun k => H4.size ≤ k ∧ k < H5.size) H5 v6 (some o) := hv6
    have hmlt : mb < H4.size := hm4.lt
    (conv => whnf); refine VCall.mk (R := fun R G => R = .tuple #[v6, .int .i64 0] ∧ Agr (fun k => k < H5.size ∧ k ≠ mb) H5 G ∧ H5.size ≤ G.size ∧ Blk G mb 216 (mkL b (F.length : Int))) (FnOk.of_vc Tryz.func161 rfl (Tryz.call161 _) (by
      (conv => whnf); refine VSeq.run ?_
      (conv => whnf); refine VDraw.heldZ (fun k => k = mb) [10] (sq [0,1,2,3,4,5] (.f 6 (sq [7,8,9] (.f 10 .e)))) rfl (by kernel_rfl) ?_
      (conv => whnf); refine VC.fa fl216_1 ?_
      (conv => whnf); refine ld1 (v := .int .i64 0) ct3 (by rw [hm5.cell]; rfl) rfl ?_
      (conv => whnf); refine pures (states_p hv6') fun H6 ha6 => ?_
      have hm6 := hm5.agr ha6 hm5.lt
      refine ⟨ha6.mono fun k hk => by rw [hk]; exact hm5.lt, ?_⟩
      rw [hN]
      (conv => whnf); refine vmax_ ?_
      have e1 : (if (0 : Int) < (F.length : Int) then (F.length : Int) else 0) = (F.length : Int) := by split <;> omega
      rw [e1]
      (conv => whnf); refine VC.fa fl216_1 ?_
      (conv => whnf); refine st1Blk hm6 ct3 (show 1 < 2 by decide) rfl fun H7 hb7 ha7 hs7 => ?_
      (conv => whnf)
      refine ⟨rfl, (ha6.mono fun k hk => hk.1).trans (ha7.mono fun k hk => ⟨old_lt ha6 hk.1, hk.2⟩), ?_, hb7⟩
      have := old_size ha6
      omega)) ?_
    rintro _ H7 ⟨rfl, ha7, hs7, hb7⟩
    have hsz5 := old_size ha5
    have g7 : Agr (fun k => k < H4.size ∧ k ≠ mb) H4 H7 := (hSm ha5).trans (ha7.mono fun k hk => ⟨by omega, hk.2⟩)
    refine ⟨g7, ?_⟩
    (conv => whnf)
    refine ⟨g7, ?_⟩
    (conv => whnf)
    refine ⟨hA4 g7, by omega, hb7, v6, o, rfl, (hv6.frame (ha7.mono fun k hk => ⟨hk.2, by omega⟩)).mono fun k hk => ⟨by omega, by omega⟩, hL, hN, hMd⟩
set_option maxHeartbeats 8000000 in
theorem start_c (r : ReM) (hpl : r.plain = true) (hnb : r.nodes ≤ 1000000000) {H : Heap} {b : Int} (hpow : PowH Tryz.prog H) :
    FnOk Tryz.prog 47 #[nodeV r, .int .i64 b] H fun R H' => Agr (Old H) H H' ∧ StartR r b H' R := by
  rw [nodeV_eq]
  refine FnOk.of_vc Tryz.func47 rfl (Tryz.call47 _) ?_
  unfold StartR
  by_cases hb1 : b < 1
  · have d1 : decide (b < 1) = true := decide_eq_true hb1
    (conv => whnf); rw [d1]
    (conv => whnf)
    exact ⟨Agr.refl _ _, by rw [if_pos (.inl hb1)]⟩
  have d1 : decide (b < 1) = false := decide_eq_false hb1
  by_cases hb2 : 4096 < b
  · have d2 : decide (b > 4096) = true := decide_eq_true hb2
    (conv => whnf); rw [d1]
    (conv => whnf); rw [d2]
    (conv => whnf)
    exact ⟨Agr.refl _ _, by rw [if_pos (.inr hb2)]⟩
  have d2 : decide (b > 4096) = false := decide_eq_false hb2
  (conv => whnf); rw [d1]
  (conv => whnf); rw [d2]
  (conv => whnf); refine ifneq Tryz.underlying28 ?_
  (conv => whnf); refine VInv.mk (sizeF r) #[nodeP r] (size_m r) (size_p r hnb H) ?_
  rintro _ H1 ⟨rfl, ha1⟩
  have st1 := (St.nil H).call ha1
  by_cases hbig : 2000 < r.nodes
  · have d3 : decide ((r.nodes : Int) > 2000) = true := decide_eq_true (by omega)
    (conv => whnf); rw [d3]
    (conv => whnf)
    exact ⟨st1.old, by rw [if_neg (by omega), if_pos hbig]⟩
  have d3 : decide ((r.nodes : Int) > 2000) = false := decide_eq_false (by omega)
  (conv => whnf); rw [d3]
  (conv => whnf); refine vbuildS Tryz.underlying216 rfl _ mk_z (mkL b 0) rfl ?_
  (conv => whnf); refine vbox (mkL b 0) rfl ?_
  intro mb H2 hmb hs2 hb2 ha2
  have st2 := st1.skip hmb ha2
  have hmc := mbuild_c r hpl (by omega) (b := b) (St.nil H2) hb2 (hpow.agr st2.old)
  rw [nodeV_eq] at hmc
  (conv => whnf); refine VCall.mk hmc ?_
  rintro R H3 ⟨ha3, hs3, hR⟩
  have h3 : Agr (Old H) H H3 := st2.old.trans (ha3.mono fun k hk => by
    have h1 := old_lt st2.old hk
    have h2 := old_size st1.old
    have h3 : k < H.size := hk
    exact ⟨h1, by omega⟩)
  cases hd : detB (nfaOf r) b with
  | error e =>
    rw [hd] at hR
    simp only at hR
    subst hR
    have he := (detB_err hd).1
    have d4 : (e != 0) = true := by simpa using he
    (conv => whnf); rw [d4]
    (conv => whnf)
    exact ⟨h3, by rw [if_neg (by omega), if_neg hbig]⟩
  | ok F =>
    rw [hd] at hR
    obtain ⟨hb3, v, o, rfl, hv, hL, hN⟩ := hR
    (conv => whnf); refine VDraw.lex rfl (by kernel_rfl) ?_
    (conv => whnf); refine VC.fa fl216_1 ?_
    (conv => whnf); refine ld1 (v := .int .i64 (F.length : Int)) ct3 (by rw [hb3.cell]; rfl) trivial ?_
    (conv => whnf)
    refine ⟨h3, ?_⟩
    rw [if_neg (by omega), if_neg hbig]
    exact ⟨v, o, rfl, hv.mono fun k hk => hk.2, hL, hN⟩
/-- What Build answers of a plain tree. -/
theorem langBuild_c (r : ReM) (hpl : r.plain = true) (hnb : r.nodes ≤ 1000000000) {H : Heap} {b : Int} (hpow : PowH Tryz.prog H) :
    FnOk Tryz.prog 14 #[nodeV r, .int .i64 b] H fun R H' => Agr (Old H) H H' ∧ ∃ x y z, StartR r b H' (.tuple #[x, y, z]) ∧ R = .tuple #[x, z] := by
  refine FnOk.of_vc Tryz.func14 rfl (Tryz.call14 _) ?_
  (conv => whnf); refine VCall.mk (start_c r hpl hnb hpow) ?_
  rintro R H1 ⟨ha1, hR⟩
  obtain ⟨x, y, z, rfl⟩ : ∃ x y z, R = .tuple #[x, y, z] := by
    unfold StartR at hR
    split at hR
    · exact ⟨_, _, _, hR⟩
    · split at hR
      · exact ⟨_, _, _, hR⟩
      · split at hR
        · exact ⟨_, _, _, hR⟩
        · obtain ⟨v, o, h, -⟩ := hR
          exact ⟨_, _, _, h⟩
  (conv => whnf)
  exact ⟨ha1, x, y, z, hR, rfl⟩
theorem langNeed_c (r : ReM) (hpl : r.plain = true) (hnb : r.nodes ≤ 1000000000) {H : Heap} {b : Int} (hpow : PowH Tryz.prog H) :
    FnOk Tryz.prog 30 #[nodeV r, .int .i64 b] H fun R H' => Agr (Old H) H H' ∧ ∃ x y z, StartR r b H' (.tuple #[x, y, z]) ∧ R = .tuple #[y, z] := by
  refine FnOk.of_vc Tryz.func30 rfl (Tryz.call30 _) ?_
  (conv => whnf); refine VCall.mk (start_c r hpl hnb hpow) ?_
  rintro R H1 ⟨ha1, hR⟩
  obtain ⟨x, y, z, rfl⟩ : ∃ x y z, R = .tuple #[x, y, z] := by
    unfold StartR at hR
    split at hR
    · exact ⟨_, _, _, hR⟩
    · split at hR
      · exact ⟨_, _, _, hR⟩
      · split at hR
        · exact ⟨_, _, _, hR⟩
        · obtain ⟨v, o, h, -⟩ := hR
          exact ⟨_, _, _, h⟩
  (conv => whnf)
  exact ⟨ha1, x, y, z, hR, rfl⟩
end Go.Proofs.YtfbghcpdinlmcaaGreatDoor
/- The explorer over pairs; lang.product, Meet, Join, Less: the walks. -/
set_option linter.unusedVariables false
set_option linter.unusedSimpArgs false
set_option maxRecDepth 100000
namespace Go.Proofs.YtfbghcpdinlmcaaGreatDoor
open Go.VC
attribute [local irreducible] mRun gRun atRun
theorem _root_.Go.VC.StB.front {B : Nat → Prop} {H0 H : Heap} {ps : List Pc} {q : Pc} (st : StB B H0 H (ps ++ [q])) : StB B H0 H (q :: ps) := by
  have hd := List.pairwise_append.1 st.dis
  refine ⟨st.old, st.lt0, st.size, fun p hp => st.oks p ?_, fun p hp => st.rng p ?_, List.pairwise_cons.2 ⟨fun p hp k hk hk2 => hd.2.2 p hp q (by simp) k hk2 hk, hd.1⟩⟩
  · rcases List.mem_cons.1 hp with rfl | hp
    · simp
    · simp [hp]
  · rcases List.mem_cons.1 hp with rfl | hp
    · simp
    · simp [hp]
theorem _root_.Go.VC.StB.tail {B : Nat → Prop} {H0 H : Heap} {ps : List Pc} {q : Pc} (st : StB B H0 H (q :: ps)) : StB B H0 H ps :=
  ⟨st.old, st.lt0, st.size, fun p hp => st.oks p (by simp [hp]), fun p hp => st.rng p (by simp [hp]), (List.pairwise_cons.1 st.dis).2⟩
/-! ### at -/
section
variable {B : Nat → Prop} {H0 H : Heap} {rest : List Pc} {xb mb fc most : Nat} {fa : Option Addr} {F : List (Int × Int)} {k : Int × Int}
end
end Go.Proofs.YtfbghcpdinlmcaaGreatDoor
/- Explore over pairs; lang.product, Meet, Join, Less: the walks. (Printed by mklg4.py.) -/
set_option linter.unusedVariables false
set_option linter.unusedSimpArgs false
set_option maxRecDepth 100000
namespace Go.Proofs.YtfbghcpdinlmcaaGreatDoor
open Go.VC
attribute [local irreducible] mRun gRun atRun
/-- Two automata, in boxes. -/
structure BoxAB (S : Nat → Prop) (H : Heap) (pa pb : Nat) (va vb : Value) (a b : Option AM) : Prop where
  spa : S pa
  spb : S pb
  ca : Cells H pa 0 [va]
  cb : Cells H pb 0 [vb]
  va : AutoV S H va a
  vb : AutoV S H vb b
section
variable {S : Nat → Prop} {H : Heap} {pa pb pf : Nat} {va vb : Value} {a b : Option AM} {x : Int × Int} {c : Nat} {ends : Bool → Bool → Bool} {f : FuncId}
end
end Go.Proofs.YtfbghcpdinlmcaaGreatDoor
/- lang.product, Meet, Join, Less: the walks. -/
set_option linter.unusedVariables false
set_option linter.unusedSimpArgs false
set_option maxRecDepth 100000
namespace Go.Proofs.YtfbghcpdinlmcaaGreatDoor
open Go.VC
attribute [local irreducible] mRun gRun atRun
section
variable {S : Nat → Prop} {H : Heap} {va vb : Value} {a b : Option AM} {ends : Bool → Bool → Bool} {f : FuncId} {m : Int}
end
end Go.Proofs.YtfbghcpdinlmcaaGreatDoor
/- lang.Not: the walk, and what it makes. -/
set_option linter.unusedVariables false
set_option linter.unusedSimpArgs false
set_option maxRecDepth 100000
namespace Go.Proofs.YtfbghcpdinlmcaaGreatDoor
open Go.VC
attribute [local irreducible] mRun gRun atRun
section
variable {o : Option AM} {n q j : Nat}
end
end Go.Proofs.YtfbghcpdinlmcaaGreatDoor
/- The automaton of a plain text: how many states, what it takes; speaks of the laws of layer 6. -/
set_option linter.unusedVariables false
set_option linter.unusedSimpArgs false
set_option maxRecDepth 100000
namespace Go.Proofs.YtfbghcpdinlmcaaGreatDoor
open Go.VC
attribute [local irreducible] mRun gRun atRun
theorem big_step (a : NfM) (x : List Int) {b : Nat} (hb : 256 ≤ b) : stepA a x b = [] := by
  have h : ∀ q, goS a (fun q => q ∈ x) b q → False := clS_least (Y := fun _ => False) (fun q ⟨e, _, _, hbit, _⟩ => by
    rw [BitVec.getLsbD_of_ge _ _ hb] at hbit; cases hbit) fun e _ _ _ h => h
  rw [List.eq_nil_iff_forall_not_mem]
  intro q hq
  exact h q ((lstS_mem (has_rng (goS_has a _ b)) q).1 hq)
theorem closedW {K : Type} [DecidableEq K] {most : Nat} {step : K → Nat → K} {start : K} {F : List K} (hm : 1 ≤ most) (h : detW most step start = some F) : ∀ x ∈ F, ∀ b, b < 256 → step x b ∈ F := by
  unfold detW at h
  cases hd : detF most step (List.range 256) start with
  | none => rw [hd] at h; cases h
  | some z =>
    obtain ⟨G, rows⟩ := z
    rw [hd] at h
    simp only [Option.map_some, Option.some.injEq] at h
    subst h
    have hk := rowsF_ok hm G.length G rows (detF_at hm hd) fun j hj => hj
    intro x hx b hb
    obtain ⟨q, hq⟩ := List.getElem?_of_mem hx
    obtain ⟨row, hrow⟩ := get_some (l := rows) (k := q) (by rw [hk.rl]; exact (List.getElem?_eq_some_iff.1 hq).1)
    have hcl := hk.cols row (List.mem_of_getElem? hrow)
    obtain ⟨t, ht⟩ := get_some (l := row) (k := b) (by rw [hcl]; simpa using hb)
    exact List.mem_of_getElem? (hk.ok q b row b t x hrow (List.getElem?_range hb) ht hq)
section
variable {l : List Nat}
theorem text_fold (hn : l.length ≤ 30000) (hb8 : ∀ c ∈ l, c < 256) : ∀ i, i ≤ l.length → (l.take i).foldl (stepA (nfaOf (textR l))) (begL (nfaOf (textR l))) = txL l.length i
  | 0, _ => by rw [List.take_zero]; exact text_begL hn
  | i + 1, hi => by
    obtain ⟨c, hc⟩ := get_some (l := l) (k := i) (by omega)
    rw [take_succ_snoc hc, List.foldl_append, text_fold hn hb8 i (by omega)]
    show stepA _ _ c = _
    rw [text_step hn hb8 (by omega) (hb8 c (List.mem_of_getElem? hc)), if_pos hc]
theorem text_fin (hn : l.length ≤ 30000) {i : Nat} (hi : i ≤ l.length) : (nfaOf (textR l)).fin ∈ txL l.length i ↔ i = l.length := by
  rw [txL_mem hn hi]
  by_cases hl : l = []
  · subst hl
    unfold txS
    rw [if_pos (show ([] : List Nat).length = 0 from rfl)]
    have : i = 0 := by simpa using hi
    subst this
    exact ⟨fun _ => rfl, fun _ => .inr rfl⟩
  · have hpos : 0 < l.length := List.length_pos_iff.2 hl
    have hf : (nfaOf (textR l)).fin = ((2 * l.length - 1 : Nat) : Int) := by
      show (((bldM (textR l) 0).2.1 : Nat) : Int) = _
      rw [(text_edges l hl).2.2.1]
    unfold txS
    rw [if_neg (by omega), hf]
    omega
theorem text_det (hn : l.length ≤ 30000) (hb8 : ∀ c ∈ l, c < 256) {most : Nat} (hm : 1 ≤ most) : (l.length + 2 ≤ most → ∃ F, detN (nfaOf (textR l)) most = some F ∧ F.length = l.length + 2) ∧ (most < l.length + 2 → detN (nfaOf (textR l)) most = none) := by
  have hP : ∀ x b, x ∈ txAll l.length → stepA (nfaOf (textR l)) x b ∈ txAll l.length := fun x b hx => by
    by_cases hb : b < 256
    · exact txAll_step hn hb8 hx hb
    · rw [big_step _ _ (by omega)]; exact List.mem_cons_self
  have h0 : begL (nfaOf (textR l)) ∈ txAll l.length := by rw [text_begL hn]; exact txAll_in (Nat.zero_le _)
  have key : ∀ F, detN (nfaOf (textR l)) most = some F → F.length = l.length + 2 ∧ F.length ≤ most := fun F hF => by
    have hlen := detW_len hm hF
    have hcl := closedW hm hF
    have hsub : ∀ x ∈ txAll l.length, x ∈ F := by
      have hT : ∀ i, i ≤ l.length → txL l.length i ∈ F := fun i => by
        induction i with
        | zero => intro _; rw [← text_begL hn]; exact List.mem_of_getElem? hlen.2.2.2
        | succ i ih =>
          intro hi
          obtain ⟨c, hc⟩ := get_some (l := l) (k := i) (by omega)
          have hc8 := hb8 c (List.mem_of_getElem? hc)
          have := hcl _ (ih (by omega)) c hc8
          rwa [text_step hn hb8 (by omega) hc8, if_pos hc] at this
      intro x hx
      rcases List.mem_cons.1 hx with rfl | hx
      · have := hcl _ (hT l.length (Nat.le_refl _)) 0 (by decide)
        rwa [text_step hn hb8 (Nat.le_refl _) (by decide), if_neg (by rw [List.getElem?_eq_none (Nat.le_refl _)]; simp)] at this
      · obtain ⟨i, hi, rfl⟩ := List.mem_map.1 hx
        exact hT i (by have := List.mem_range.1 hi; omega)
    have hsup : ∀ x ∈ F, x ∈ txAll l.length := by
      have hF' := hF
      unfold detN detW at hF'
      cases hd : detF most (stepA (nfaOf (textR l))) (List.range 256) (begL (nfaOf (textR l))) with
      | none => rw [hd] at hF'; cases hF'
      | some z =>
        obtain ⟨G, rows⟩ := z
        rw [hd] at hF'
        simp only [Option.map_some, Option.some.injEq] at hF'
        subst hF'
        exact (rows_inv (P := fun x => x ∈ txAll l.length) hm h0 (fun x b hx => hP x b hx) _ most G rows hd).2.2.2
    have h1 := nodup_sub (txAll_nd hn) hsub
    have h2 := nodup_sub hlen.2.2.1 hsup
    rw [txAll_len] at h1 h2
    exact ⟨by omega, hlen.2.1⟩
  constructor
  · intro h
    cases hd : detN (nfaOf (textR l)) most with
    | some F => exact ⟨F, rfl, (key F hd).1⟩
    | none =>
      exfalso
      unfold detN detW at hd
      rw [Option.map_eq_none_iff] at hd
      obtain ⟨L, k1, k2, k3⟩ := rowsF_none_many (P := fun x => x ∈ txAll l.length) hm h0 hP _ _ hd
      have := nodup_sub k1 k3
      rw [txAll_len] at this
      omega
  · intro h
    cases hd : detN (nfaOf (textR l)) most with
    | none => rfl
    | some F => have := key F hd; omega
end
/-- The states that a word leads to. -/
theorem leads5_run {a : NfM} {F : List (List Int)} {st : Int → Nat → Int} {fi : Int → Bool} (h : Leads5 a F st fi) : ∀ (w : List Nat) (q : Nat) (x : List Int), bytes_ w → F[q]? = some x → ∃ t : Nat, w.foldl st (q : Int) = (t : Int) ∧ F[t]? = some (w.foldl (stepA a) x)
  | [], q, x, _, hx => ⟨q, rfl, hx⟩
  | b :: w, q, x, hw, hx => by
    obtain ⟨t, e, ht⟩ := h.st q b x hx (hw b (by simp))
    obtain ⟨u, e2, hu⟩ := leads5_run h w t (stepA a x b) (fun c hc => hw c (by simp [hc])) ht
    exact ⟨u, by rw [List.foldl_cons, e]; exact e2, hu⟩
theorem leads5_acc {a : NfM} {F : List (List Int)} {o : Option AM} (h : Leads5 a F (stepM o) (finM o)) (h0 : F[0]? = some (begL a)) {w : List Nat} (hw : bytes_ w) : accL o w = decide (a.fin ∈ w.foldl (stepA a) (begL a)) := by
  obtain ⟨t, e, ht⟩ := leads5_run h w 0 _ hw h0
  show finM o (w.foldl (stepM o) 0) = _
  rw [show w.foldl (stepM o) (0 : Int) = (t : Int) from e, h.fi t _ ht]
/-- What Determinize of a text's automaton gives. -/
theorem text_detB {l : List Nat} (hn : l.length ≤ 30000) (hb8 : ∀ c ∈ l, c < 256) {b : Int} (h1 : 1 ≤ b) (h2 : b ≤ 4096) : if (l.length : Int) + 2 ≤ b then ∃ F, detB (nfaOf (textR l)) b = .ok F ∧ F.length = l.length + 2 ∧ F[0]? = some (begL (nfaOf (textR l))) else detB (nfaOf (textR l)) b = .error 40 := by
  obtain ⟨m, rfl⟩ := Int.eq_ofNat_of_zero_le (show 0 ≤ b by omega)
  obtain ⟨k1, k2⟩ := text_det hn hb8 (most := m) (by omega)
  rw [detB_in (by omega) (by omega)]
  split
  · obtain ⟨F, hF, hl⟩ := k1 (by omega)
    rw [hF]
    exact ⟨F, rfl, hl, (detW_len (by omega) hF).2.2.2⟩
  · rw [k2 (by omega)]
theorem byN_lt (s : ByteArray) : ∀ c ∈ byN s, c < 256 := by
  intro c hc
  unfold byN at hc
  obtain ⟨b, -, rfl⟩ := List.mem_map.1 hc
  exact UInt8.toNat_lt b
set_option maxHeartbeats 8000000 in
theorem speaks06_p {H : Heap} (hpow : PowH Tryz.prog H) : Pure Tryz.prog 13 #[] H (.bool true) := by
  have hb : bytes_ [97, 98] := fun b hb => by simp at hb; omega
  have hbn : byN ⟨#[97, 98]⟩ = [97, 98] := rfl
  have hnd : (textR [97, 98]).nodes = 3 := rfl
  refine FnOk.of_vc Tryz.func13 rfl (Tryz.call13 _) ?_
  (conv => whnf); refine pures (text_p ⟨#[97, 98]⟩ (by decide) H) fun H1 ha1 => ?_
  rw [hbn]
  (conv => whnf); refine VCall.mk (langBuild_c (textR [97, 98]) (textR_plain _) (by rw [hnd]; decide) (hpow.agr ha1)) ?_
  rintro _ H2 ⟨ha2, x, y, z, hS, rfl⟩
  have h12 := ha1.trans (ha2.mono fun k hk => old_lt ha1 hk)
  unfold StartR at hS
  rw [if_neg (by decide), if_neg (by rw [hnd]; decide)] at hS
  have hd := text_detB (l := [97, 98]) (by decide) hb (b := 4) (by decide) (by decide)
  rw [if_pos (by decide)] at hd
  obtain ⟨F, hF, hFl, hF0⟩ := hd
  rw [hF] at hS
  obtain ⟨v, o, e, hv, hL, hN⟩ := hS
  have e := Array.toList_inj.2 (Value.tuple.inj e)
  simp only [List.cons.injEq, and_true] at e
  obtain ⟨rfl, rfl, rfl⟩ := e
  (conv => whnf); refine pures (text_p ⟨#[97, 98]⟩ (by decide) H2) fun H3 ha3 => ?_
  have h13 := h12.trans (ha3.mono fun k hk => old_lt h12 hk)
  rw [hbn]
  (conv => whnf); refine VCall.mk (langNeed_c (textR [97, 98]) (textR_plain _) (by rw [hnd]; decide) (hpow.agr h13)) ?_
  rintro _ H4 ⟨ha4, x', y', z', hS', rfl⟩
  have h14 := h13.trans (ha4.mono fun k hk => old_lt h13 hk)
  unfold StartR at hS'
  rw [if_neg (by decide), if_neg (by rw [hnd]; decide)] at hS'
  have hd' := text_detB (l := [97, 98]) (by decide) hb (b := 4096) (by decide) (by decide)
  rw [if_pos (by decide)] at hd'
  obtain ⟨F', hF', hFl', -⟩ := hd'
  rw [hF'] at hS'
  obtain ⟨v', o', e', -, -, -⟩ := hS'
  have e' := Array.toList_inj.2 (Value.tuple.inj e')
  simp only [List.cons.injEq, and_true] at e'
  obtain ⟨rfl, rfl, rfl⟩ := e'
  have h24 : Agr (Old H2) H2 H4 := ha3.trans (ha4.mono fun k hk => old_lt ha3 hk)
  have hv4 := hv.frame h24
  obtain ⟨pv, hpv⟩ : ∃ pv, x = .pointer (some pv) := by
    obtain ⟨pv, e, -⟩ := hv
    exact ⟨_, e⟩
  subst hpv
  have acc : ∀ i, i ≤ 2 → accL (some o) ([97, 98].take i) = decide (i = 2) := fun i hi => by
    rw [leads5_acc hL hF0 (fun b hb' => hb b (List.mem_of_mem_take hb')), text_fold (l := [97, 98]) (by decide) hb i hi, decide_eq_decide]
    exact text_fin (l := [97, 98]) (by decide) hi
  have a2 : acceptsM (some o) ⟨#[97, 98]⟩ = true := by
    rw [show (⟨#[97, 98]⟩ : ByteArray) = bA [97, 98] from rfl, acc_bA hb]
    exact acc 2 (Nat.le_refl _)
  have a1 : acceptsM (some o) ⟨#[97]⟩ = false := by
    rw [show (⟨#[97]⟩ : ByteArray) = bA [97] from rfl, acc_bA (fun b hb' => hb b (by simp at hb'; simp [hb']))]
    exact acc 1 (by decide)
  have hFl4 : F'.length = 4 := hFl'
  rw [hFl4]
  (conv => whnf); refine pneqS Tryz.underlying23 ?_
  have hq1 := accepts_p (s := ⟨#[97, 98]⟩) (fun k hk => old_lt h24 hk) hv4 (by decide)
  (conv => whnf); refine pures hq1 fun H5 ha5 => ?_
  rw [a2]
  have h25 := h24.trans (ha5.mono fun k hk => old_lt h24 hk)
  have hq2 := accepts_p (s := ⟨#[97]⟩) (fun k hk => old_lt h25 hk) (hv.frame h25) (by decide)
  (conv => whnf); refine pures hq2 fun H6 ha6 => ?_
  rw [a1]
  have h26 := h25.trans (ha6.mono fun k hk => old_lt h25 hk)
  (conv => whnf)
  exact ⟨rfl, h12.trans (h26.mono fun k hk => old_lt h12 hk)⟩
end Go.Proofs.YtfbghcpdinlmcaaGreatDoor
/- auto of the laws of layer 06. -/
set_option linter.unusedVariables false
set_option linter.unusedSimpArgs false
set_option maxRecDepth 100000
namespace Go.Proofs.YtfbghcpdinlmcaaGreatDoor
open Go.VC
attribute [local irreducible] mRun atRun

end Go.Proofs.YtfbghcpdinlmcaaGreatDoor
/- ambig's Meets: the walks. -/
set_option linter.unusedVariables false
set_option linter.unusedSimpArgs false
set_option maxRecDepth 100000
namespace Go.Proofs.YtfbghcpdinlmcaaGreatDoor
open Go.VC
attribute [local irreducible] mRun gRun atRun
end Go.Proofs.YtfbghcpdinlmcaaGreatDoor
/- The pairs of louperef07.First: the walk of add. -/
set_option linter.unusedVariables false
set_option linter.unusedSimpArgs false
set_option maxRecDepth 100000
namespace Go.Proofs.YtfbghcpdinlmcaaGreatDoor
open Go.VC
attribute [local irreducible] oneM mRun gRun atRun
/-! ### rows -/
structure PrsP (vs : List Value) (F : List NW) : Prop where
  len : vs.length = 1026
  nd : (F.map (·.1)).Nodup
end Go.Proofs.YtfbghcpdinlmcaaGreatDoor
/- minim.Table: the walk (under way: begins here). -/
set_option linter.unusedVariables false
set_option linter.unusedSimpArgs false
set_option maxRecDepth 100000
namespace Go.Proofs.YtfbghcpdinlmcaaGreatDoor
open Go.VC Go.Lib
attribute [local irreducible] mRun gRun atRun
end Go.Proofs.YtfbghcpdinlmcaaGreatDoor
/- louperef07.Table: the walk. -/
set_option linter.unusedVariables false
set_option linter.unusedSimpArgs false
set_option maxRecDepth 100000
namespace Go.Proofs.YtfbghcpdinlmcaaGreatDoor
open Go.VC Go.Lib
attribute [local irreducible] mRun gRun atRun
end Go.Proofs.YtfbghcpdinlmcaaGreatDoor
/- auto of the laws of layer 07. -/
set_option linter.unusedVariables false
set_option linter.unusedSimpArgs false
set_option maxRecDepth 100000
namespace Go.Proofs.YtfbghcpdinlmcaaGreatDoor
open Go.VC
attribute [local irreducible] mRun atRun

end Go.Proofs.YtfbghcpdinlmcaaGreatDoor
/- The laws MinimCanons and MinimTables: the walks. -/
set_option linter.unusedVariables false
set_option linter.unusedSimpArgs false
set_option maxRecDepth 100000
namespace Go.Proofs.YtfbghcpdinlmcaaGreatDoor
open Go.VC Go.Lib
attribute [local irreducible] mRun gRun atRun odd7M
end Go.Proofs.YtfbghcpdinlmcaaGreatDoor
/- The law MinimOneTable: the walk. -/
set_option linter.unusedVariables false
set_option linter.unusedSimpArgs false
set_option maxRecDepth 100000
namespace Go.Proofs.YtfbghcpdinlmcaaGreatDoor
open Go.VC Go.Lib
attribute [local irreducible] mRun gRun atRun odd7M
end Go.Proofs.YtfbghcpdinlmcaaGreatDoor
/- The law LangAlgebra: the walk. -/
set_option linter.unusedVariables false
set_option linter.unusedSimpArgs false
set_option maxRecDepth 100000
namespace Go.Proofs.YtfbghcpdinlmcaaGreatDoor
open Go.VC Go.Lib
attribute [local irreducible] mRun gRun atRun
end Go.Proofs.YtfbghcpdinlmcaaGreatDoor
/- The library's table of powers, out of a row's list. -/
set_option linter.unusedVariables false
set_option maxRecDepth 100000
namespace Go.Proofs.YtfbghcpdinlmcaaGreatDoor
open Go.VC Go.Lib
theorem pow_g : Tryz.prog.globalNamed powN = some 1 := by kernel_rfl
theorem pow_gt : (Tryz.prog.globals[1]?).map (·.type) = some 362 := by kernel_rfl
theorem pow_c : Tryz.prog.cellsOf 362 = 20 := by kernel_rfl
theorem pow_c1 : Tryz.prog.cellsOf 99 = 1 := by kernel_rfl
theorem pow_data : (Rows.laid_internal_strconv_uint64pow10 : DataW Unit) = tabData .u64 pow10Tab := by kernel_rfl
theorem pow_of_laid {W : World} (h : laidMetH Tryz.prog Rows.langAlgebraUptoRow.laid W) : PowH Tryz.prog W.heap := by
  have hW : TabIs Tryz.prog W powN .u64 pow10Tab := by
    obtain ⟨ps, ⟨g0, t0, cs0, f0, p0, q0, hg0, ht0, hv0, hd0, ⟨g1, t1, cs1, f1, p1, q1, hg1, ht1, hv1, hd1, ⟨g2, t2, cs2, f2, p2, q2, hg2, ht2, hv2, hd2, -, -⟩, -⟩, -⟩, -⟩ := h
    obtain rfl := Option.some.inj (pow_g.symm.trans hg2)
    obtain rfl := Option.some.inj (pow_gt.symm.trans ht2)
    rw [pow_data] at hd2
    unfold TabIs
    rw [hv2, ← cells_of_tab Tryz.underlying362 Tryz.underlying99 pow_c1 pow_c hd2]
  intro w hw
  exact var_agr hW fun k _ => by rw [hw]
end Go.Proofs.YtfbghcpdinlmcaaGreatDoor
/- A world for the witness: the tables of the library hold what their initialisers lay. -/
set_option linter.unusedVariables false
set_option maxRecDepth 100000
namespace Go.Proofs.YtfbghcpdinlmcaaGreatDoor
open Go.VC Go.Lib
def tab32 : List Int := [0, 1, 28, 2, 29, 14, 24, 3, 30, 22, 20, 15, 25, 17, 4, 8, 31, 27, 13, 23, 21, 19, 16, 7, 26, 12, 18, 6, 11, 5, 10, 9]
def tab32V : Array Value := (tab32.map (Value.int .u8)).toArray
def tab64 : List Int := [0, 1, 56, 2, 57, 49, 28, 3, 61, 58, 42, 50, 38, 29, 17, 4, 62, 47, 59, 36, 45, 43, 51, 22, 53, 39, 33, 30, 24, 18, 12, 5, 63, 55, 48, 27, 60, 41, 37, 16, 46, 35, 44, 21, 52, 32, 23, 11, 54, 26, 40, 15, 34, 20, 31, 10, 25, 14, 19, 9, 13, 8, 7, 6]
def tab64V : Array Value := (tab64.map (Value.int .u8)).toArray
def tabP10 : List Int := [1, 10, 100, 1000, 10000, 100000, 1000000, 10000000, 100000000, 1000000000, 10000000000, 100000000000, 1000000000000, 10000000000000, 100000000000000, 1000000000000000, 10000000000000000, 100000000000000000, 1000000000000000000, 10000000000000000000]
def tabP10V : Array Value := (tabP10.map (Value.int .u64)).toArray
def putTab (vs : Array Value) : Obj → Obj
  | .cells _ t frozen => .cells vs t frozen
  | o => o
noncomputable def laidW (os : Os) : World :=
  { World.holding Tryz.prog os ⟨#[], #[], []⟩ with heap := (((World.holding Tryz.prog os ⟨#[], #[], []⟩).heap.modify 3 (putTab tab32V)).modify 4 (putTab tab64V)).modify 1 (putTab tabP10V) }
end Go.Proofs.YtfbghcpdinlmcaaGreatDoor
/- Reading arguments: what the form says of them, as typed views. -/
set_option linter.unusedVariables false
set_option linter.unusedSimpArgs false
namespace Go.VC
open Go.Proofs.YtfbghcpdinlmcaaGreatDoor.Rows (uptoBulk uptoBulkAll)
def InW (W : World) (k : Nat) : Prop := k < W.heap.size
section
variable {H : Type} {enc : TypeId × Value → H} {P : Program} {W : World} {t e : TypeId}
end

end Go.VC
/- Sets as arguments. -/
set_option linter.unusedVariables false
set_option linter.unusedSimpArgs false
set_option maxRecDepth 100000
namespace Go.Proofs.YtfbghcpdinlmcaaGreatDoor
open Go.VC Go
end Go.Proofs.YtfbghcpdinlmcaaGreatDoor
/- Tables as arguments. -/
set_option linter.unusedVariables false
set_option linter.unusedSimpArgs false
set_option maxRecDepth 100000
namespace Go.Proofs.YtfbghcpdinlmcaaGreatDoor
open Go.VC Go
/-- A table, as it is handed in. -/
structure TableV (W : World) (v : Value) (cells : List (BitVec 256)) (next : List (List Int)) (final : List Bool) : Prop where
  rep : ∃ ca na fa cc nc fc, v = .agg #[.slice ca cells.length cc, .slice na next.length nc, .slice fa final.length fc] ∧ SlD tSet (InW W) W.heap ca cc cells ∧ SlD tRows (InW W) W.heap na nc next ∧ SlD tBool (InW W) W.heap fa fc final
end Go.Proofs.YtfbghcpdinlmcaaGreatDoor
/- Closing: a law that returns true and leaves all that was there as it was. -/
set_option linter.unusedVariables false
namespace Go.VC
open Go.ChangeShapes Go.WideShapes Go.ChangeAt Go.RowKit

theorem kept_of_agr {W W' : World} {may : MemPlace → Prop} (he : Env W W') (h : Agr (Old W.heap) W.heap W'.heap) : W.keptBut W' may := by
  refine ⟨he.os, he.output, fun i hi => ?_⟩
  rw [h i hi]
  split <;> simp_all
theorem frozen_of_agr {W W' : World} (h : Agr (Old W.heap) W.heap W'.heap) (a : Addr) (ha : a.block < W.heap.size) : W'.frozen? a = W.frozen? a := by
  unfold World.frozen?
  rw [h a.block ha]
theorem sameAt_of_agr {W W' : World} (h : Agr (Old W.heap) W.heap W'.heap) : ∀ p : MemPlace, p.block < W.heap.size → W.sameAt W' p
  | .cell b o, hb => by
    show W'.cell? ⟨b, o, none⟩ = W.cell? ⟨b, o, none⟩
    rw [cell_w, cell_w]
    exact cell_eq (h b hb)
  | .map b, hb => h b hb
section
variable {H : Type} {enc : TypeId × Value → H} {P : Program}
theorem all_stay {W W' : World} {sp : Nat → Bool} (hl : laidOutB P = true) (ha : Agr (Old W.heap) W.heap W'.heap) : ∀ {ts : List TypeId} {vs : List Value} {ds : List (DataW H)} {ps : List MemPlace}, (∀ t ∈ ts, P.readableRec t = true ∧ t < P.types.size) →
    DataW.TrodAll enc P W 0 (fun _ => true) true ts vs ds ps → (∀ p ∈ ps, p.block < W.heap.size) → (∀ p ∈ ps, sp p.block = true) → DataW.TrodAll enc P W' 0 sp true ts vs ds ps
  | [], vs, ds, ps, _, h, _, _ => by
    obtain ⟨rfl, rfl, rfl⟩ := trodAll_nil h
    exact trodAll_mk0
  | t :: ts, vs, ds, ps, ht, h, hlt, hsp => by
    obtain ⟨v, vs', d, ds', p, q, rfl, rfl, rfl, h1, h2⟩ := trodAll_cons h
    have ht0 := ht t List.mem_cons_self
    exact trodAll_cons_mk (WideElems.Trod_stays hl ht0.1 ht0.2 h1 (fun x hx => sameAt_of_agr ha x (hlt x (List.mem_append_left _ hx))) fun x hx => hsp x (List.mem_append_left _ hx))
      (all_stay hl ha (fun x hx => ht x (List.mem_cons_of_mem _ hx)) h2 (fun x hx => hlt x (List.mem_append_right _ hx)) fun x hx => hsp x (List.mem_append_right _ hx))
theorem trod_b {w : World} {base : Nat} {sp : Nat → Bool} {hd : Bool} {t : TypeId} {b : Bool} (h : P.underlying t = some .bool) : DataW.Trod enc P w base sp hd t (.bool b) (.lit (.bool b)) [] := ⟨1, by simp [DataW.trod, Value.cells, h]⟩
/-- The law has returned true; what was there is as it was. -/
theorem post_true {f : Func} {s : ChangeSpec} {apart fresh handsOn again : Bool} {W W' : World} {args : Array Value} {ds gs : List (DataW H)} {before : List MemPlace} {bt : TypeId}
    (hW : DataW.Whole enc P f.params.toList s.vars apart W args.toList ds gs before) (hv : s.vars = []) (hfn : (s.fn H (ds ++ gs)).results = [.lit (.bool true)] ∧ (s.fn H (ds ++ gs)).args = ds ∧ (s.fn H (ds ++ gs)).vars = [])
    (hl : laidOutB P = true) (hp : f.params.toList.all (fun t => P.readableRec t && decide (t < P.types.size)) = true) (hr : f.resultTypes = #[bt]) (hu : P.underlying bt = some .bool)
    (he : Env W W') (ha : Agr (Old W.heap) W.heap W'.heap) : s.post enc P f apart fresh handsOn again W args (.bool true) W' := by
  have hlt := hW.lt
  have hW' := hW
  obtain ⟨pa, pv, hA, hV, hbe, hz, hn⟩ := hW
  rw [hv] at hV
  obtain ⟨rfl, rfl⟩ := trodVars_none hV
  rw [List.append_nil] at hbe
  subst hbe
  obtain ⟨hres, hargs, hvars⟩ := hfn
  have hk : W.keptBut W' (fun _ => False) := kept_of_agr he ha
  have hpp : ∀ t ∈ f.params.toList, P.readableRec t = true ∧ t < P.types.size := fun t ht => by
    have := List.all_eq_true.1 hp t ht
    simpa using this
  have hst : ∀ sp : Nat → Bool, (∀ p ∈ before, sp p.block = true) → DataW.TrodAll enc P W' 0 sp true f.params.toList args.toList (s.fn H (ds ++ [])).args before := fun sp hsp => by
    rw [hargs]; exact all_stay hl ha hpp hA hlt hsp
  have hrs : ∀ (b : Nat) (sp : Nat → Bool) (hd : Bool), DataW.TrodAll enc P W' b sp hd f.resultTypes.toList ((Value.bool true).resultList f.resultTypes.size) (s.fn H (ds ++ [])).results [] := fun b sp hd => by
    rw [hres, hr]; exact trodAll_mk1 (trod_b hu)
  have hvs : ∀ sp : Nat → Bool, DataW.TrodVars enc P W' sp s.vars (s.fn H (ds ++ [])).vars [] := fun sp => by
    rw [hvars, hv]; rfl
  have hok : ∀ (j : Nat) (t : TypeId) (r : Value), f.resultTypes[j]? = some t → ((Value.bool true).resultList f.resultTypes.size)[j]? = some r → Value.okWide P W' .any 0 t r := ok_one hr rfl (okWide_bool_mk hu true)
  refine ⟨ds, [], before, [], before, [], hW', hrs _ _ _, hst _ (fun p hp => decide_eq_true (hlt p hp)), hvs _, World.keptBut_mono (fun p hp => hp.elim) hk, fun _ => ?_⟩
  refine ⟨hok, _, _, ([] ++ before) ++ [], ⟨[] ++ before, [], trodAll_append (hst _ (fun _ _ => rfl)) (hrs _ _ _), hvs _, rfl, ?_, ?_⟩, ?_⟩
  · intro b off hp
    simp only [List.nil_append, List.append_nil] at hp
    rw [frozen_of_agr ha _ (hlt _ hp)]
    exact hz b off hp
  · intro hap
    have := hn hap
    simpa using this
  · intro p hp _
    simpa using hp
end

end Go.VC
/- A table that is handed in, small enough. -/
set_option linter.unusedVariables false
set_option maxRecDepth 100000
namespace Go.Proofs.YtfbghcpdinlmcaaGreatDoor
open Go.VC
theorem own_ : ownKnob Tryz.prog.godebug = none := by kernel_rfl
theorem laid_ : laidOutB Tryz.prog = true := by kernel_rfl
theorem small_of {H : Type} {ds : List (DataW H)} (h : Rows.uptoSmall H ds = true) : Rows.uptoBulkAll ds ≤ 1048576 := by simpa [Rows.uptoSmall] using h
end Go.Proofs.YtfbghcpdinlmcaaGreatDoor
