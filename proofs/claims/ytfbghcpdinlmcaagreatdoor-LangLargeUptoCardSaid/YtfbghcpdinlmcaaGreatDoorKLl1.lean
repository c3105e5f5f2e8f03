/- LangLarge: the closing text. -/
import Derived.Test.YtfbghcpdinlmcaaGreatDoorKLb5
import Derived.Test.YtfbghcpdinlmcaaGreatDoorKLb4
import Derived.Test.YtfbghcpdinlmcaaGreatDoorCards
import Derived.Test.YtfbghcpdinlmcaaGreatDoorTie
import Derived.Deep.DeepHandedRow
/- alike of the laws of layer 6; the law LangDeMorgan: the walks. -/
set_option linter.unusedVariables false
set_option linter.unusedSimpArgs false
set_option maxRecDepth 100000
namespace Go.Proofs.YtfbghcpdinlmcaaGreatDoor
open Go.VC Go.Lib
attribute [local irreducible] mRun gRun atRun
end Go.Proofs.YtfbghcpdinlmcaaGreatDoor
/- The law LangLarge: the walk. -/
set_option linter.unusedVariables false
set_option linter.unusedSimpArgs false
set_option maxRecDepth 100000
namespace Go.Proofs.YtfbghcpdinlmcaaGreatDoor
open Go.VC Go.Lib
attribute [local irreducible] mRun gRun atRun
theorem live_word {a : NfM} {F : List (List Int)} {A : AM} (hok : A.Ok) (hm : IsMade (some A)) (hL : Leads5 a F (stepM (some A)) (finM (some A))) {q : Nat} (h : LiveT A.next A.final q) : ∀ x, F[q]? = some x → ∃ w, bytes_ w ∧ a.fin ∈ w.foldl (stepA a) x := by
  induction h with
  | @fin q hf =>
    intro x hx
    refine ⟨[], (fun b hb => (by cases hb)), ?_⟩
    have h1 := hL.fi q x hx
    have h2 : finM (some A) (q : Int) = true := by
      show (decide ((0 : Int) ≤ (q : Int)) && (A.final[((q : Int)).toNat]?).getD false) = true
      rw [Int.toNat_natCast, hf]
      simp
    rw [h2] at h1
    exact of_decide_eq_true h1.symm
  | @step q t row hr ht hl ih =>
    intro x hx
    obtain ⟨k, hk⟩ := List.getElem?_of_mem ht
    obtain ⟨ls, hc⟩ := hm.ok
    have hrl := hok.rows row (List.mem_of_getElem? hr)
    obtain ⟨b, hb, hcb⟩ := hc.cols A rfl k (by rw [← hrl.1]; exact (List.getElem?_eq_some_iff.1 hk).1)
    have hq := (List.getElem?_eq_some_iff.1 hr).1
    have hst : stepM (some A) (q : Int) b = (t : Int) := by
      unfold stepM
      rw [if_neg (by simp [stN]; omega)]
      simp only [Int.toNat_natCast, hr, List.getD_eq_getElem?_getD, hcb, Option.getD_some, hk]
    obtain ⟨u, e, hu⟩ := hL.st q b x hx hb
    rw [hst] at e
    obtain rfl : t = u := by omega
    obtain ⟨w, hw, hf⟩ := ih _ hu
    exact ⟨b :: w, fun c hc => by
      rcases List.mem_cons.1 hc with rfl | hc
      · exact hb
      · exact hw c hc, hf⟩
theorem nil_fold (a : NfM) : ∀ w : List Nat, w.foldl (stepA a) [] = []
  | [] => rfl
  | b :: w => by rw [List.foldl_cons, nil_step]; exact nil_fold a w
theorem dead_nil {a : NfM} {F : List (List Int)} {A : AM} (hok : A.Ok) (hm : IsMade (some A)) (hL : Leads5 a F (stepM (some A)) (finM (some A))) {q : Nat} (hq : F[q]? = some []) : aliveM (some A) (q : Int) = false := by
  unfold aliveM
  rw [decide_eq_false_iff_not, Int.toNat_natCast]
  intro h
  obtain ⟨w, -, hf⟩ := live_word hok hm hL h [] hq
  rw [nil_fold] at hf
  cases hf
theorem runM_L {o : Option AM} (s : ByteArray) : runM o s s.size = runL o (unB s) 0 := by
  have := acc_bA (o := o) (unB_bytes s)
  conv => lhs; rw [← bA_unB s]
  unfold runM runL
  rw [bA_size, bA_data, List.take_of_length_le (by simp), List.foldl_map]
  have : ∀ (w : List Nat) (q : Int), bytes_ w → w.foldl (fun q b => stepM o q (UInt8.ofNat b).toNat) q = w.foldl (fun q b => stepM o q b) q := fun w => by
    induction w with
    | nil => intro q _; rfl
    | cons c w ih =>
      intro q hb
      have hc := hb c (by simp)
      rw [List.foldl_cons, List.foldl_cons, ih _ fun d hd => hb d (by simp [hd])]
      rw [show (UInt8.ofNat c).toNat = c by rw [UInt8.toNat_ofNat']; omega]
  exact this _ _ (unB_bytes s)
set_option maxHeartbeats 16000000 in
theorem langLarge_p (s : ByteArray) (m : Int) (S : Nat → Prop) (H : Heap) (hs : s.size ≤ 1048576) (hpow : PowH Tryz.prog H) :
    Pure Tryz.prog 3 #[.string s, .int .i64 m] H (.bool true) := by
  have hbl : (byN s).length = s.size := byN_len s
  have hb8 : ∀ c ∈ byN s, c < 256 := byN_lt s
  have hunB : unB s = byN s := rfl
  refine FnOk.of_vc Tryz.func3 rfl (Tryz.call3 _) ?_
  (conv => whnf); refine pures (speaks06_p hpow) fun H1 ha1 => ?_
  by_cases hbig : s.size > 60000
  · have d0 : decide ((s.size : Int) > 60000) = true := decide_eq_true (by omega)
    (conv => whnf); rw [d0]
    (conv => whnf)
    exact ⟨rfl, ha1⟩
  have d0 : decide ((s.size : Int) > 60000) = false := decide_eq_false (by omega)
  (conv => whnf); rw [d0]
  have hq1 := text_p s hs H1
  (conv => whnf); refine pures hq1 fun H2 ha2 => ?_
  have h2 := ha1.trans (ha2.mono fun k hk => old_lt ha1 hk)
  have hnodes := textR_nodes (byN s)
  rw [hbl] at hnodes
  (conv => whnf); refine VCall.mk (langBuild_c (textR (byN s)) (textR_plain _) (by omega) (b := m) (hpow.agr h2)) ?_
  rintro _ H3 ⟨ha3, x, y, z, hS, rfl⟩
  have h3 := h2.trans (ha3.mono fun k hk => old_lt h2 hk)
  -- what is wanted
  obtain ⟨e, he⟩ : ∃ e : Int, e = if m < 1 ∨ 4096 < m then 2 else if 1000 < s.size then 24 else if m < (s.size : Int) + 2 then 40 else 0 := ⟨_, rfl⟩
  have hz : z = .int .i64 e ∧ (e ≠ 0 → x = .pointer none) ∧ (e = 0 → ∃ F o, AutoV (Old H3) H3 x (some o) ∧ Leads5 (nfaOf (textR (byN s))) F (stepM (some o)) (finM (some o)) ∧ stN (some o) = F.length ∧ IsMade (some o) ∧ F.length = s.size + 2 ∧ F[0]? = some (begL (nfaOf (textR (byN s)))) ∧ s.size ≤ 1000) := by
    unfold StartR at hS
    by_cases c3 : m < 1 ∨ 4096 < m
    · rw [if_pos c3] at hS
      have hS := Array.toList_inj.2 (Value.tuple.inj hS)
      simp only [List.cons.injEq, and_true] at hS
      obtain ⟨rfl, rfl, rfl⟩ := hS
      rw [he, if_pos c3]
      exact ⟨rfl, fun _ => rfl, fun h => by cases h⟩
    · rw [if_neg c3] at hS
      by_cases c2 : 1000 < s.size
      · rw [if_pos (by omega)] at hS
        have hS := Array.toList_inj.2 (Value.tuple.inj hS)
        simp only [List.cons.injEq, and_true] at hS
        obtain ⟨rfl, rfl, rfl⟩ := hS
        rw [he, if_neg c3, if_pos c2]
        exact ⟨rfl, fun _ => rfl, fun h => by cases h⟩
      · rw [if_neg (by omega)] at hS
        have hd := text_detB (l := byN s) (by omega) hb8 (b := m) (by omega) (by omega)
        rw [hbl] at hd
        by_cases c1 : m < (s.size : Int) + 2
        · rw [if_neg (by omega)] at hd
          rw [hd] at hS
          have hS := Array.toList_inj.2 (Value.tuple.inj hS)
          simp only [List.cons.injEq, and_true] at hS
          obtain ⟨rfl, rfl, rfl⟩ := hS
          rw [he, if_neg c3, if_neg c2, if_pos c1]
          exact ⟨rfl, fun _ => rfl, fun h => by cases h⟩
        · rw [if_pos (by omega)] at hd
          obtain ⟨F, hF, hFl, hF0⟩ := hd
          rw [hF] at hS
          obtain ⟨v, o, hS, hv, hL, hN, hMd⟩ := hS
          have hS := Array.toList_inj.2 (Value.tuple.inj hS)
          simp only [List.cons.injEq, and_true] at hS
          obtain ⟨rfl, rfl, rfl⟩ := hS
          rw [he, if_neg c3, if_neg c2, if_neg c1]
          exact ⟨rfl, fun h => absurd rfl h, fun _ => ⟨F, o, hv, hL, hN, hMd, hFl, hF0, by omega⟩⟩
  obtain ⟨rfl, hz1, hz2⟩ := hz
  (conv => whnf)
  refine VSeq.cut [7] (fun _ : Unit => [.int .i64 (if m < (s.size : Int) + 2 then 40 else 0)]) (fun _ G => H3 = G) ?_ ?_
  · (conv => whnf); rw [w64 (x := (s.size : Int) + 2) (by omega) (by omega)]
    by_cases c1 : m < (s.size : Int) + 2
    · have d1 : decide ((s.size : Int) + 2 > m) = true := decide_eq_true (by omega)
      rw [if_pos c1]
      (conv => whnf); rw [d1]
      (conv => whnf)
      exact ⟨rfl, (), rfl, rfl⟩
    · have d1 : decide ((s.size : Int) + 2 > m) = false := decide_eq_false (by omega)
      rw [if_neg c1]
      (conv => whnf); rw [d1]
      (conv => whnf)
      exact ⟨rfl, (), rfl, rfl⟩
  rintro ⟨⟩ G1 junk1 rfl
  obtain ⟨w1, hw1⟩ : ∃ w1 : Int, w1 = if m < (s.size : Int) + 2 then 40 else 0 := ⟨_, rfl⟩
  rw [← hw1]
  (conv => whnf)
  refine VSeq.cut [7] (fun _ : Unit => [.int .i64 (if 1000 < s.size then 24 else w1)]) (fun _ G => H3 = G) ?_ ?_
  · by_cases c2 : 1000 < s.size
    · have d1 : decide ((s.size : Int) > 1000) = true := decide_eq_true (by omega)
      rw [if_pos c2]
      (conv => whnf); rw [d1]
      (conv => whnf)
      exact ⟨rfl, (), rfl, rfl⟩
    · have d1 : decide ((s.size : Int) > 1000) = false := decide_eq_false (by omega)
      rw [if_neg c2]
      (conv => whnf); rw [d1]
      (conv => whnf)
      exact ⟨rfl, (), rfl, rfl⟩
  rintro ⟨⟩ G2 junk2 rfl
  obtain ⟨w2, hw2⟩ : ∃ w2 : Int, w2 = if 1000 < s.size then 24 else w1 := ⟨_, rfl⟩
  rw [← hw2]
  (conv => whnf)
  refine VSeq.cut [7] (fun _ : Unit => [.int .i64 e]) (fun _ G => H3 = G) ?_ ?_
  · rw [he, ← hw1, ← hw2]
    by_cases c3 : m < 1
    · have d1 : decide (m < 1) = true := decide_eq_true c3
      rw [if_pos (.inl c3)]
      (conv => whnf); rw [d1]
      (conv => whnf)
      exact ⟨rfl, (), rfl, rfl⟩
    · have d1 : decide (m < 1) = false := decide_eq_false c3
      by_cases c4 : 4096 < m
      · have d2 : decide (m > 4096) = true := decide_eq_true c4
        rw [if_pos (.inr c4)]
        (conv => whnf); rw [d1]
        (conv => whnf); rw [d2]
        (conv => whnf)
        exact ⟨rfl, (), rfl, rfl⟩
      · have d2 : decide (m > 4096) = false := decide_eq_false c4
        rw [if_neg (by omega)]
        (conv => whnf); rw [d1]
        (conv => whnf); rw [d2]
        (conv => whnf)
        exact ⟨rfl, (), rfl, rfl⟩
  rintro ⟨⟩ G3 junk3 rfl
  have e0 : (e != e) = false := by simp
  (conv => whnf); rw [e0]
  by_cases hez : e = 0
  · obtain ⟨F, o, hv, hL, hN, hMd, hFl, hF0, hsz⟩ := hz2 hez
    subst hez
    obtain ⟨pv, hpv⟩ : ∃ pv, x = .pointer (some pv) := by
      obtain ⟨pv, e, -⟩ := hv
      exact ⟨_, e⟩
    subst hpv
    have hok : o.Ok := by
      obtain ⟨_, _, _, hok, _⟩ := hv
      exact hok
    have hfold := text_fold (l := byN s) (by omega) hb8 (byN s).length (Nat.le_refl _)
    rw [List.take_length] at hfold
    have acc : ∀ w, bytes_ w → accL (some o) w = decide ((nfaOf (textR (byN s))).fin ∈ w.foldl (stepA (nfaOf (textR (byN s)))) (begL (nfaOf (textR (byN s))))) := fun w hw => leads5_acc hL hF0 hw
    have e1 : acceptsM (some o) s = true := by
      have e : acceptsM (some o) s = accL (some o) (unB s) := by rw [← acc_bA (unB_bytes s), bA_unB]
      rw [e, acc _ (unB_bytes s), hunB, hfold]
      exact decide_eq_true ((text_fin (by omega) (Nat.le_refl _)).2 rfl)
    have hcat : ∀ c : Nat, c < 256 → unB (s ++ bA [c]) = byN s ++ [c] := fun c hc => by
      unfold unB
      rw [bytes_list, List.map_append]
      congr 1
      show [(UInt8.ofNat c).toNat] = [c]
      rw [UInt8.toNat_ofNat']
      congr 1
      omega
    have hlast : ∀ c : Nat, c < 256 → (byN s ++ [c]).foldl (stepA (nfaOf (textR (byN s)))) (begL (nfaOf (textR (byN s)))) = [] := fun c hc => by
      rw [List.foldl_append, hfold]
      show stepA _ _ c = []
      rw [text_step (by omega) hb8 (Nat.le_refl _) hc, if_neg (by rw [List.getElem?_eq_none (Nat.le_refl _)]; simp)]
    have e2 : acceptsM (some o) (s ++ bA [97]) = false := by
      have e : acceptsM (some o) (s ++ bA [97]) = accL (some o) (unB (s ++ bA [97])) := by rw [← acc_bA (unB_bytes _), bA_unB]
      rw [e, acc _ (unB_bytes _), hcat 97 (by decide), hlast 97 (by decide)]
      rfl
    have hzs : (s ++ bA [122]).size = s.size + 1 := by rw [ByteArray.size_append]; rfl
    have hal := acc_alive hok e1
    have e3 : liveM (some o) (s ++ bA [122]) = s.size := by
      refine liveM_some ?_ (by omega) ?_ fun i hi => ?_
      · have := hal 0 (Nat.zero_le _)
        exact this
      · rw [← hzs, runM_L, hcat 122 (by decide)]
        obtain ⟨t, ht, hFt⟩ := leads5_run hL (byN s ++ [122]) 0 _ (fun b hb => by
          rcases List.mem_append.1 hb with hb | hb
          · exact hb8 b hb
          · simp at hb; omega) hF0
        rw [hlast 122 (by decide)] at hFt
        show aliveM (some o) ((byN s ++ [122]).foldl (stepM (some o)) 0) = false
        have ht' : (byN s ++ [122]).foldl (stepM (some o)) (0 : Int) = (t : Int) := ht
        rw [ht']
        exact dead_nil hok hMd hL hFt
      · rw [runM_cat s (bA [122]) (by omega)]
        exact hal (i + 1) (by omega)
    have hsm : s.size ≤ maxLen := by unfold maxLen; omega
    have d5 : ((stN (some o) : Int) == (s.size : Int) + 2) = true := by
      rw [hN, hFl]
      simp
    (conv => whnf); refine pneqS Tryz.underlying23 ?_
    (conv => whnf); refine pures (states_p hv) fun H4 ha4 => ?_
    (conv => whnf); rw [w64 (x := (s.size : Int) + 2) (by omega) (by omega)]
    (conv => whnf); rw [d5]
    have hq4 := accepts_p (s := s) (fun k hk => old_lt ha4 hk) (hv.frame ha4) hsm
    rw [e1] at hq4
    (conv => whnf); refine pures hq4 fun H5 ha5 => ?_
    have h35 := ha4.trans (ha5.mono fun k hk => old_lt ha4 hk)
    (conv => whnf); refine vcat (a := s) (b := bA [97]) (by rw [bsz]; unfold maxLen; simp only [List.length_singleton]; omega) ?_
    have hq5 := accepts_p (s := s ++ bA [97]) (fun k hk => old_lt h35 hk) (hv.frame h35) (by rw [ByteArray.size_append, bsz]; unfold maxLen; simp only [List.length_singleton]; omega)
    rw [e2] at hq5
    (conv => whnf); refine pures hq5 fun H6 ha6 => ?_
    have h36 := h35.trans (ha6.mono fun k hk => old_lt h35 hk)
    (conv => whnf); refine vcat (a := s) (b := bA [122]) (by rw [bsz]; unfold maxLen; simp only [List.length_singleton]; omega) ?_
    have hq6 := live_p (s := s ++ bA [122]) (fun k hk => old_lt h36 hk) (hv.frame h36) (by rw [ByteArray.size_append, bsz]; unfold maxLen; simp only [List.length_singleton]; omega)
    rw [e3] at hq6
    (conv => whnf); refine pures hq6 fun H7 ha7 => ?_
    have d6 : ((s.size : Int) == (s.size : Int)) = true := by simp
    (conv => whnf); rw [d6]
    (conv => whnf)
    exact ⟨rfl, h3.trans ((h36.trans (ha7.mono fun k hk => old_lt h36 hk)).mono fun k hk => old_lt h3 hk)⟩
  · obtain rfl := hz1 hez
    have d4 : (e != 0) = true := by simpa using hez
    (conv => whnf); rw [d4]
    (conv => whnf); refine peqN Tryz.underlying23 ?_
    (conv => whnf)
    exact ⟨rfl, h3⟩
end Go.Proofs.YtfbghcpdinlmcaaGreatDoor
set_option linter.unusedVariables false
set_option linter.unusedSimpArgs false
namespace Go.Proofs.YtfbghcpdinlmcaaGreatDoor
open Go.ChangeShapes Go.WideShapes Go.ChangeAt Go.RowKit
open Go.ChangeMaps (open_string)
open Go.VC

theorem langLarge_met (os : Os) : laidMet Tryz.prog Rows.langLargeUptoRow.laid ((laidW os).forCall (fun _ _ => 0) ⟨#[], #[.string ⟨#[]⟩, .int .i64 0], []⟩).memory :=
  laidMet_of_run' 100 (by kernel_rfl) (by kernel_rfl)
theorem langLarge_reads (os : Os) {H : Type} (enc : TypeId × Value → H) : ∃ places, DataW.whole enc Tryz.prog ((laidW os).forCall (fun _ _ => 0) ⟨#[], #[.string ⟨#[]⟩, .int .i64 0], []⟩).memory Tryz.f3.params.toList (Rows.OpenSpec.upto Rows.langLargeSpec).bare.plain.vars false (#[.string ⟨#[]⟩, .int .i64 0] : Array Value).toList 8 = some ([.lit (.string []), .lit (.int .i64 0)], [], places) :=
  ⟨[], by kernel_rfl⟩
set_option maxRecDepth 100000 in
theorem langLarge_lifted (os : Os) (started : os.Started) (H : Type) (enc : TypeId × Value → H) (F : Stop.Interp) :
    ReturnsInHanded {} Tryz.checked os 3 .any ((Rows.OpenSpec.upto Rows.langLargeSpec).preRow enc Tryz.prog Tryz.f3 Rows.langLargeUptoRow.domain false Rows.langLargeUptoRow.laid) (((Rows.OpenSpec.upto Rows.langLargeSpec).at F).post enc Tryz.prog Tryz.f3 false true false false) := by
  obtain ⟨places, hx⟩ := langLarge_reads os enc
  refine returnsInHanded_of_row (C := Tryz.checked) (s := Rows.OpenSpec.upto Rows.langLargeSpec) own_ started (by kernel_rfl) Tryz.func3
    (witness_row_at (enc := enc) (C := Tryz.checked) false (laidW os) #[.string ⟨#[]⟩, .int .i64 0] rfl (by kernel_rfl) (by kernel_rfl) (by kernel_rfl)
      (OpenSpec.preRow_of_cond 8 hx (by kernel_rfl) (fun k hk => by cases hk; kernel_rfl) (by kernel_rfl) (langLarge_met os))) ?_
  intro W base args ds gs before hval0 hW _ hcond _ hL _ _
  have hk := hcond _ rfl
  have hval : ∀ (j : Nat) t v, Tryz.f3.params[j]? = some t → args[j]? = some v → Value.okWide Tryz.prog W .any base t v := hval0
  have hW' := hW
  obtain ⟨p, q, hA0, hV, rfl, hfz, hnd⟩ := hW
  have hA : DataW.TrodAll enc Tryz.prog W 0 (fun _ => true) true [9, 3] args.toList ds p := hA0
  obtain ⟨v0, vs0, d0, ds0, p0, q0, e0, rfl, rfl, h0, r0⟩ := trodAll_cons hA
  obtain ⟨v1, vs1, d1, ds1, p1, q1, rfl, rfl, rfl, h1, r1⟩ := trodAll_cons r0
  obtain ⟨rfl, rfl, rfl⟩ := trodAll_nil r1
  obtain rfl : args = #[v0, v1] := by cases args; simp_all
  obtain ⟨rfl, rfl⟩ := trodVars_none hV
  have hb := small_of hk
  obtain ⟨s0, rfl, rfl, rfl, hs0⟩ := open_string Tryz.underlying9 (hval 0 9 v0 rfl rfl) h0
  obtain ⟨n1, rfl, rfl, rfl, wn1⟩ := open_int Tryz.underlying3 (hval 1 3 v1 rfl rfl) h1
  simp only [List.append_nil, Rows.uptoBulkAll, Rows.uptoBulk, Array.length_toList] at hb
  refine ((langLarge_p s0 n1 (InW W) W.heap (by have : s0.data.size = s0.size := rfl; omega) (pow_of_laid hL)) W rfl).2.mono fun e W' ⟨v, he, henv, hv, hag⟩ => ?_
  subst he; subst hv
  exact ⟨_, rfl, post_true hW' rfl ⟨rfl, rfl, rfl⟩ laid_ (by kernel_rfl) rfl Tryz.underlying4 henv hag⟩

theorem langLarge_said : Rows.LangLargeUptoSaid :=
  OpenClaim.holds_of_cond 3 Tryz.f3 rfl rfl rfl rfl rfl rfl rfl ⟨rfl, rfl, rfl, rfl, rfl⟩ rfl rfl rfl rfl rfl (by kernel_rfl) Tryz.func3 (by kernel_rfl)
    (of_decide_eq_true (by kernel_rfl)) (by unfold Func.isWrapper; first | (rw [if_pos (by decide +kernel)]; kernel_rfl) | (rw [if_neg (by decide +kernel)]; exact ⟨rfl, rfl⟩))
    (fun os started H enc _ F => by rw [OpenClaim.pre_eq_preRow]; exact langLarge_lifted os started H enc F)

theorem langLarge_plain (f : FuncId) (fn : Func) (hf : Tryz.pinned.checked.prog.funcNamed "loupe/loupelaw06.LangLarge" = some f) (hfn : Tryz.pinned.checked.prog.funcs[f]? = some fn) :
    true = Tryz.pinned.checked.prog.looks [] ∧ ∀ (j : Nat) t, fn.params[j]? = some t → Tryz.pinned.checked.prog.wantsStandIn t = false := by
  obtain rfl : f = 3 := Option.some.inj ((show Tryz.prog.funcNamed "loupe/loupelaw06.LangLarge" = some 3 by kernel_rfl).symm.trans hf) |>.symm
  obtain rfl : fn = Tryz.f3 := (Option.some.inj (Tryz.func3.symm.trans hfn)).symm
  refine ⟨by kernel_rfl, fun j t ht => ?_⟩
  have ht : (#[9, 3] : Array TypeId)[j]? = some t := ht
  have hm := Array.mem_of_getElem? ht
  simp only [List.mem_toArray, List.mem_cons, List.not_mem_nil, or_false] at hm
  rcases hm with rfl | rfl
  · exact (show Tryz.prog.wantsStandIn 9 = false by kernel_rfl)
  · exact (show Tryz.prog.wantsStandIn 3 = false by kernel_rfl)
theorem langLarge_holds : Rows.LangLargeUptoCardSaid :=
  Claim7.holds_tied_plain_at .later [] _ _ _ _ langLarge_said (fun _ h => by cases h) (by kernel_rfl) (fun _ h => by cases h) langLargeUpto_row_tie rfl ⟨rfl, rfl⟩ (by kernel_rfl) rfl langLarge_plain (by kernel_rfl)

#print axioms langLarge_holds
end Go.Proofs.YtfbghcpdinlmcaaGreatDoor
