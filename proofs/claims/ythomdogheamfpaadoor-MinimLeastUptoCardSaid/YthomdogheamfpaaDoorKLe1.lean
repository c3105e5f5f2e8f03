/- The law MinimLeast returns true for every table and every string, where what it reads is of bulk at most 1048576, and changes nothing: no other condition. -/
import Derived.Test.YthomdogheamfpaaDoorKN6
import Derived.Test.YthomdogheamfpaaDoorCards
import Derived.Test.YthomdogheamfpaaDoorTie
import Derived.Deep.DeepHandedRow
/- told of the laws of layer 7: the walk through the pairs; one step of the walk over all bytes, for any steps. -/
set_option linter.unusedVariables false
set_option linter.unusedSimpArgs false
set_option maxRecDepth 100000
namespace Go.Proofs.YthomdogheamfpaaDoor
open Go.VC Go.Lib
attribute [local irreducible] mRun gRun atRun odd7M
theorem at_same {K : Type} {F : List K} (hn : F.Nodup) {i j : Nat} {x : K} (hi : F[i]? = some x) (hj : F[j]? = some x) : i = j := by
  obtain ⟨h1, e1⟩ := List.getElem?_eq_some_iff.1 hi
  obtain ⟨h2, e2⟩ := List.getElem?_eq_some_iff.1 hj
  rcases Nat.lt_trichotomy i j with h | h | h
  · exact absurd (e1.trans e2.symm) (List.pairwise_iff_getElem.1 hn i j h1 h2 h)
  · exact h
  · exact absurd (e2.trans e1.symm) (List.pairwise_iff_getElem.1 hn j i h2 h1 h)
/-- One step of the walk over all bytes. -/
theorem order_stepG {K : Type} [DecidableEq K] {most : Nat} {step : K → Nat → K} {F f : List K} {x : K} {f' : List K} {row : List Nat} {f1 : List K} {row1 : List Nat} {b : Nat} (hb : b < 256) (hn : F.Nodup) (hl : f.length ≤ most) (hnf : f.Nodup) (ht : (List.range 256).foldl (rowF most step x) (some (f, [])) = some (f1, row1)) (h1 : f1 <+: F)
    (h : (List.range b).foldl (rowF most step x) (some (f, [])) = some (f', row)) {t : Nat} (hF : F[t]? = some (step x b)) :
    ∃ f2 row2, (List.range (b + 1)).foldl (rowF most step x) (some (f, [])) = some (f2, row2) ∧ f2 <+: F ∧ t ≤ f'.length ∧ f2.length = if t = f'.length then f'.length + 1 else f'.length := by
  obtain ⟨g1, g2, -, -⟩ := row_pre _ f f' [] row h hl hnf
  have e1 : (List.range (b + 1)).foldl (rowF most step x) (some (f, [])) = (atF most f' (step x b)).map fun r => (r.1, row ++ [r.2]) := by
    rw [List.range_succ, List.foldl_append, h]
    rfl
  have e2 : (List.range 256) = List.range (b + 1) ++ ((List.range 256).drop (b + 1)) := by
    conv => lhs; rw [← List.take_append_drop (b + 1) (List.range 256)]
    rw [List.take_range, Nat.min_eq_left (by omega)]
  rw [e2, List.foldl_append, e1] at ht
  cases ha : atF most f' (step x b) with
  | none => rw [ha, Option.map_none, rowF_none] at ht; cases ht
  | some p =>
    obtain ⟨f2, i⟩ := p
    rw [ha] at ht e1
    obtain ⟨k1, k2, k3, k4⟩ := atF_some ha g1 g2
    have k5 := (row_pre _ f2 f1 _ row1 ht k2 k3).2.2.1
    have hti : t = i := at_same hn hF (pre_get (k5.trans h1) k1)
    subst hti
    refine ⟨f2, _, e1, k5.trans h1, ?_⟩
    unfold atF at ha
    cases hf : f'.findIdx? (· = step x b) with
    | some j =>
      rw [hf] at ha
      injection ha with ha
      injection ha with h2 h3
      subst h2; subst h3
      have := (List.findIdx?_eq_some_iff_getElem.1 hf).1
      exact ⟨by omega, by rw [if_neg (by omega)]⟩
    | none =>
      rw [hf] at ha
      simp only at ha
      split at ha
      · injection ha with ha
        injection ha with h2 h3
        subst h2; subst h3
        exact ⟨Nat.le_refl _, by rw [if_pos rfl]; simp⟩
      · cases ha
theorem pair_div {x y n : Nat} (h : y < n) : (x * n + y) / n = x := by
  rw [Nat.mul_comm, Nat.mul_add_div (by omega), Nat.div_eq_of_lt h, Nat.add_zero]
theorem pair_mod {x y n : Nat} (h : y < n) : (x * n + y) % n = y := by
  rw [Nat.mul_comm, Nat.mul_add_mod, Nat.mod_eq_of_lt h]
theorem pair_lt {x y n : Nat} (hx : x < n) (hy : y < n) : x * n + y < n * n := by
  have : (x + 1) * n ≤ n * n := Nat.mul_le_mul_right _ hx
  rw [Nat.succ_mul] at this
  omega
theorem pairs_eqv {M : PA} (hM : M.Ok) {T : List Nat} {n : Nat} (hn : n = M.n) (hT : ∀ k ∈ T, k < n * n) (h : ∀ k ∈ T, M.fi (k / n) = M.fi (k % n) ∧ ∀ b, b < 256 → M.st (k / n) b * n + M.st (k % n) b ∈ T) : ∀ (w : List Nat), bytes5 w → ∀ k ∈ T, M.fi (M.run (k / n) w) = M.fi (M.run (k % n) w)
  | [], _, k, hk => (h k hk).1
  | b :: w, hw, k, hk => by
    have hb := hw b (by simp)
    have hpos := hM.pos
    have hx : k / n < M.n := by have := hT k hk; rw [← hn]; exact Nat.div_lt_of_lt_mul this
    have hy : k % n < M.n := by rw [← hn]; exact Nat.mod_lt _ (by omega)
    have hy2 := hM.cl _ b hy hb
    rw [← hn] at hy2
    have := pairs_eqv hM hn hT h w (fun c hc => hw c (by simp [hc])) _ ((h k hk).2 b hb)
    rw [pair_div hy2, pair_mod hy2] at this
    exact this
set_option maxHeartbeats 16000000 in
theorem told_p {S : Nat → Prop} {H : Heap} {v : Value} {A : Option AM} {p q : Nat} (hS : ∀ k, S k → k < H.size) (hv : AutoV S H v A) (hn40 : stN A ≤ 40) (hp : p < stN A) (hq : q < stN A) (hne : ¬ (paO A).Eqv p q) : Pure Tryd.prog 29 #[v, .int .i64 (p : Int), .int .i64 (q : Int)] H (.bool true) := by
  have hst := hv.steps
  have hM := paO_ok hst
  obtain ⟨M, hMe⟩ : ∃ M, M = paO A := ⟨_, rfl⟩
  obtain ⟨n, hn⟩ : ∃ n, n = stN A := ⟨_, rfl⟩
  have hMn : n = M.n := by rw [hn, hMe]; rfl
  have hstp : ∀ {x b : Nat}, x < n → b < 256 → stepM A (x : Int) b = ((M.st x b : Nat) : Int) := fun hx hb => by rw [hMe]; exact paO_st hst (by rw [← hn]; exact hx) hb
  have hfin : ∀ x : Nat, finM A (x : Int) = M.fi x := fun x => by rw [hMe]; rfl
  rw [← hMe] at hM hne
  rw [← hn] at hn40 hp hq
  have hcl : ∀ {x b : Nat}, x < n → b < 256 → M.st x b < n := fun hx hb => by rw [hMn] at hx ⊢; exact hM.cl _ _ hx hb
  obtain ⟨N2, hN2⟩ : ∃ N2, N2 = n * n := ⟨_, rfl⟩
  have hN2b : N2 ≤ 1600 := by rw [hN2]; exact Nat.mul_le_mul hn40 hn40
  have hnn : (n : Int) * (n : Int) = (N2 : Int) := by rw [hN2, Int.natCast_mul]
  have hVA : ∀ {G : Heap}, Agr (Old H) H G → AutoV S G v A := fun h => hv.frame (h.mono hS)
  have up : ∀ {G : Heap}, Agr (Old H) H G → ∀ k, S k → k < G.size := fun h k hk => old_lt h (hS k hk)
  have hmul : ∀ x : Nat, (x : Int) * (n : Int) = ((x * n : Nat) : Int) := fun x => by rw [Int.natCast_mul]
  have hk0 : p * n + q < N2 := by rw [hN2]; exact pair_lt hp hq
  refine FnOk.of_vc Tryd.func29 rfl (Tryd.call29 _) ?_
  (conv => whnf); refine pures (states_p hv) fun H1 ha1 => ?_
  have st1 := (St.nil H).call ha1
  rw [← hn]
  (conv => whnf); rw [w64 (x := (n : Int) * (n : Int)) (by rw [hnn]; omega) (by rw [hnn]; omega)]
  rw [hnn]
  (conv => whnf); refine vmake1 sl24 rfl (by omega) (by omega) (by omega) (by omega) ?_
  intro sb H2 hsb hs2 hb2 ha2
  rw [Int.toNat_natCast] at hb2 ⊢
  have hbr : tBool.reps none_ H2 (List.replicate N2 (Value.bool false)) (List.replicate N2 false) := by
    have := bool_reps (S := none_) (H := H2) (List.replicate N2 false)
    rwa [List.map_replicate] at this
  have st2 := st1.new (T := tBool) (n := N2) (xs := List.replicate N2 false) hsb hs2 (by simpa using hb2) ha2 hbr (by simp) (by unfold maxLen; omega)
  rw [← seenB_nil] at st2
  (conv => whnf); rw [w64 (x := (p : Int) * (n : Int)) (by rw [hmul]; omega) (by rw [hmul]; omega)]
  rw [hmul]
  (conv => whnf); rw [w64 (x := ((p * n : Nat) : Int) + (q : Int)) (by omega) (by omega)]
  rw [show ((p * n : Nat) : Int) + (q : Int) = ((p * n + q : Nat) : Int) by omega]
  obtain ⟨k0, hk0e⟩ : ∃ k0, k0 = p * n + q := ⟨_, rfl⟩
  rw [← hk0e] at hk0 ⊢
  (conv => whnf); refine vbuild1 sl33 [.int .i64 (k0 : Int)] rfl rfl (by decide) (by decide) ?_
  intro ob H3 hob hs3 hb3 ha3
  have st3 : St H H3 [pS tBool 4 (some ⟨sb, 0, none⟩) N2 N2 (seenB [] N2), pS tIk 3 (some ⟨ob, 0, none⟩) 1 1 (intsN [k0])] :=
    st2.new (T := tIk) (n := 1) (xs := [(k0 : Int)]) hob hs3 hb3 ha3 (Ty.reps_one ⟨rfl, kint ⟨by omega, by omega⟩⟩) rfl (by unfold maxLen; omega)
  (conv => whnf); rw [w64 (x := (p : Int) * (n : Int)) (by rw [hmul]; omega) (by rw [hmul]; omega)]
  rw [hmul]
  (conv => whnf); rw [w64 (x := ((p * n : Nat) : Int) + (q : Int)) (by omega) (by omega)]
  rw [show ((p * n : Nat) : Int) + (q : Int) = (k0 : Int) by omega]
  (conv => whnf); refine ix sl24 (by omega) (by omega) ?_
  (conv => whnf); refine st1O (j := k0) (x := true) st3 0 ct4 rfl rfl (by omega) (by rw [seenB_len]; omega) rfl (fun H' _ => rfl) fun H4 st4 => ?_
  rw [seenB_set (by omega), List.nil_append] at st4
  (conv => whnf)
  refine VLoop.mk [9, 10] (fun x : Nat × List Nat × Option Addr × Nat => match x with | (i, T, la, lc) => [.slice la T.length lc, .int .i64 (i : Int)])
    (fun x H5 => match x with | (i, T, la, lc) => i ≤ T.length ∧ T.Nodup ∧ (∀ k ∈ T, k < N2) ∧ k0 ∈ T ∧ (∀ j k, j < i → T[j]? = some k → M.fi (k / n) = M.fi (k % n) ∧ ∀ b, b < 256 → M.st (k / n) b * n + M.st (k % n) b ∈ T) ∧ St H H5 [pS tBool 4 (some ⟨sb, 0, none⟩) N2 N2 (seenB T N2), pS tIk 3 la T.length lc (intsN T)]) (fun x _ => 1601 - x.1) ?_ ?_
  · (conv => whnf)
    exact ⟨(0, [k0], some ⟨ob, 0, none⟩, 1), rfl, Nat.zero_le _, by simp, fun k hk => by rw [List.mem_singleton] at hk; omega, by simp, fun j k hj => by omega, st4⟩
  · clear st4 st3 st2 hbr
    rintro ⟨i, T, la, lc⟩ H5 junk5 ⟨hi, hnd, hlt, hk0T, hdone, st5⟩
    have hTn := nodup_lt hnd hlt
    have hIL : (intsN T).length = T.length := by unfold intsN; rw [List.length_map]
    (conv => whnf); refine VIte.mk (fun hz => ?_) (fun hz => ?_) <;> simp only [decide_eq_true_eq, decide_eq_false_iff_not] at hz
    · obtain ⟨k, hk⟩ := get_some (l := T) (k := i) (by omega)
      have hkT := List.mem_of_getElem? hk
      have hkN := hlt k hkT
      have hgk : (intsN T)[i]? = some (k : Int) := by unfold intsN; rw [List.getElem?_map, hk]; rfl
      have hx : k / n < n := Nat.div_lt_of_lt_mul (by rw [← hN2]; exact hkN)
      have hy : k % n < n := Nat.mod_lt _ (by omega)
      obtain ⟨x, hxe⟩ : ∃ x, x = k / n := ⟨_, rfl⟩
      obtain ⟨y, hye⟩ : ∃ y, y = k % n := ⟨_, rfl⟩
      (conv => whnf); refine VDraw.lex rfl (by kernel_rfl) ?_
      (conv => whnf); refine ixO (j := i) sl33 st5 1 rfl hgk rfl ?_
      rintro b6 o6 c6 hS6 hc6 ⟨rfl, -⟩
      (conv => whnf); refine ld1 ct3 hc6.one trivial ?_
      (conv => whnf); refine vquo (a := k) (b := n) (by omega) (kint ⟨by omega, by omega⟩) ?_
      (conv => whnf); refine ixO (j := i) sl33 st5 1 rfl hgk rfl ?_
      rintro b7 o7 c7 hS7 hc7 ⟨rfl, -⟩
      (conv => whnf); refine ld1 ct3 hc7.one trivial ?_
      (conv => whnf); refine vrem (a := k) (b := n) (by omega) ?_
      rw [← hxe, ← hye]
      rw [← hxe] at hx
      rw [← hye] at hy
      (conv => whnf); refine pures (final_p (hVA st5.old)) fun H6 ha6 => ?_
      have st6 := st5.call ha6
      (conv => whnf); refine pures (final_p (hVA st6.old)) fun H7 ha7 => ?_
      have st7 := st6.call ha7
      rw [hfin, hfin]
      by_cases hf : M.fi x = M.fi y
      · (conv => whnf); refine neqZ Tryd.underlying4 (show (M.fi x != M.fi y) = false by rw [hf]; simp) ?_
        (conv => whnf)
        refine VLoop.mk [9, 13] (fun z : Nat × List Nat × Option Addr × Nat => match z with | (b, T2, la, lc) => [.slice la T2.length lc, .int .i64 (b : Int)])
          (fun z H8 => match z with | (b, T2, la, lc) => b ≤ 256 ∧ T2.Nodup ∧ (∀ k ∈ T2, k < N2) ∧ T <+: T2 ∧ (∀ c, c < b → M.st x c * n + M.st y c ∈ T2) ∧ St H H8 [pS tBool 4 (some ⟨sb, 0, none⟩) N2 N2 (seenB T2 N2), pS tIk 3 la T2.length lc (intsN T2)]) (fun z _ => 256 - z.1) ?_ ?_
        · (conv => whnf)
          exact ⟨(0, T, la, lc), rfl, by decide, hnd, hlt, List.prefix_refl _, fun c hc => by omega, st7⟩
        · clear st5 st6 st7
          rintro ⟨b, T2, la, lc⟩ H8 junk8 ⟨hb, hnd2, hlt2, hpre, hsucc, st8⟩
          have hT2n := nodup_lt hnd2 hlt2
          have hLI : (intsN T2).length = T2.length := by unfold intsN; rw [List.length_map]
          (conv => whnf); refine VIte.mk (fun hz2 => ?_) (fun hz2 => ?_) <;> simp only [decide_eq_true_eq, decide_eq_false_iff_not] at hz2
          · have hb8 : b < 256 := by omega
            have hcx := hcl hx hb8
            have hcy := hcl hy hb8
            have hkk : M.st x b * n + M.st y b < N2 := by rw [hN2]; exact pair_lt hcx hcy
            obtain ⟨kk, hkke⟩ : ∃ kk, kk = M.st x b * n + M.st y b := ⟨_, rfl⟩
            (conv => whnf); refine VSeq.run ?_
            (conv => whnf); rw [w8 (x := (b : Int)) (by omega) (by omega)]
            (conv => whnf); refine pures (step_p (up st8.old) (hVA st8.old) hb8) fun H9 ha9 => ?_
            have st9 := st8.call ha9
            rw [hstp hx hb8]
            (conv => whnf); rw [w64 (x := (M.st x b : Int) * (n : Int)) (by rw [hmul]; omega) (by rw [hmul]; omega)]
            rw [hmul]
            (conv => whnf); rw [w8 (x := (b : Int)) (by omega) (by omega)]
            (conv => whnf); refine pures (step_p (up st9.old) (hVA st9.old) hb8) fun H10 ha10 => ?_
            have st10 := st9.call ha10
            rw [hstp hy hb8]
            (conv => whnf); rw [w64 (x := ((M.st x b * n : Nat) : Int) + (M.st y b : Int)) (by omega) (by omega)]
            rw [show ((M.st x b * n : Nat) : Int) + (M.st y b : Int) = (kk : Int) by omega]
            rw [← hkke] at hkk
            have d1 : decide ((kk : Int) < 0) = false := decide_eq_false (by omega)
            have d2 : decide ((kk : Int) ≥ (N2 : Int)) = false := decide_eq_false (by omega)
            (conv => whnf); rw [d1]
            (conv => whnf); rw [w64 (x := (n : Int) * (n : Int)) (by rw [hnn]; omega) (by rw [hnn]; omega)]
            rw [hnn]
            (conv => whnf); rw [d2]
            (conv => whnf); refine ixO (j := kk) sl24 st10 0 rfl (seenB_get hkk) rfl ?_
            rintro b11 o11 c11 hS11 hc11 rfl
            (conv => whnf); refine ld1 ct4 hc11.one trivial ?_
            by_cases hm : kk ∈ T2
            · have d3 : decide (kk ∈ T2) = true := decide_eq_true hm
              (conv => whnf); rw [d3]
              (conv => whnf); rw [w64 (x := (b : Int) + 1) (by omega) (by omega)]
              refine ⟨rfl, (b + 1, T2, la, lc), by simp, ⟨by omega, hnd2, hlt2, hpre, fun c hc => ?_, st10⟩, by simp only; omega⟩
              rcases Nat.lt_or_eq_of_le (Nat.le_of_lt_succ hc) with hc | rfl
              · exact hsucc c hc
              · rw [← hkke]; exact hm
            · have d3 : decide (kk ∈ T2) = false := decide_eq_false hm
              (conv => whnf); rw [d3]
              (conv => whnf); refine ix sl24 (by omega) (by omega) ?_
              (conv => whnf); refine st1O (j := kk) (x := true) st10 0 ct4 rfl rfl (by omega) (by rw [seenB_len]; omega) rfl (fun H' _ => rfl) fun H12 st12 => ?_
              rw [seenB_set hkk] at st12
              (conv => whnf); refine vbuild1 sl33 [.int .i64 (kk : Int)] rfl rfl (by decide) (by decide) ?_
              intro q13 H13 hq13 hs13 hb13 ha13
              (conv => whnf); refine app1 (x := (kk : Int)) (st12.skip hq13 ha13) 1 sl33 rfl hb13 ⟨rfl, kint ⟨by omega, by omega⟩⟩ rfl (by rw [hLI]; omega) (by decide) fun a14 c14 H14 st14 _ => ?_
              have e1 : (intsN T2).length + 1 = (T2 ++ [kk]).length := by rw [hLI]; simp
              have e2 : intsN T2 ++ [(kk : Int)] = intsN (T2 ++ [kk]) := by unfold intsN; simp
              rw [e1, e2] at st14
              rw [e1]
              (conv => whnf); rw [w64 (x := (b : Int) + 1) (by omega) (by omega)]
              refine ⟨rfl, (b + 1, T2 ++ [kk], a14, c14), by simp, ⟨by omega, ?_, fun k' hk' => ?_, hpre.trans (List.prefix_append _ _), fun c hc => ?_, st14⟩, by simp only; omega⟩
              · exact List.nodup_append.2 ⟨hnd2, by simp, fun u hu w hw => by
                  rw [List.mem_singleton] at hw
                  subst hw
                  exact fun e => hm (e ▸ hu)⟩
              · rcases List.mem_append.1 hk' with h | h
                · exact hlt2 k' h
                · rw [List.mem_singleton] at h; omega
              · rcases Nat.lt_or_eq_of_le (Nat.le_of_lt_succ hc) with hc | rfl
                · exact List.mem_append_left _ (hsucc c hc)
                · rw [← hkke]; simp
          · obtain rfl : b = 256 := by omega
            have hpl := hpre.length_le
            (conv => whnf); rw [w64 (x := (i : Int) + 1) (by omega) (by omega)]
            refine ⟨rfl, (i + 1, T2, la, lc), by simp, ⟨by omega, hnd2, hlt2, hpre.subset hk0T, fun j k' hj hjk => ?_, st8⟩, by simp only; omega⟩
            rcases Nat.lt_or_eq_of_le (Nat.le_of_lt_succ hj) with hj | rfl
            · obtain ⟨k1, hk1⟩ := get_some (l := T) (k := j) (by omega)
              have : k1 = k' := by
                have h1 := pre_get hpre hk1
                rw [hjk] at h1
                exact (Option.some.inj h1).symm
              subst this
              obtain ⟨h1, h2⟩ := hdone j k1 hj hk1
              exact ⟨h1, fun c hc => hpre.subset (h2 c hc)⟩
            · have : k = k' := by
                have h1 := pre_get hpre hk
                rw [hjk] at h1
                exact (Option.some.inj h1).symm
              subst this
              rw [← hxe, ← hye]
              exact ⟨hf, hsucc⟩
      · (conv => whnf); refine neqZ Tryd.underlying4 (show (M.fi x != M.fi y) = true by simpa using hf) ?_
        (conv => whnf)
        exact ⟨rfl, st7.old⟩
    · exfalso
      obtain rfl : i = T.length := by omega
      apply hne
      intro w hw
      have hall : ∀ k ∈ T, M.fi (k / n) = M.fi (k % n) ∧ ∀ b, b < 256 → M.st (k / n) b * n + M.st (k % n) b ∈ T := fun k hk => by
        obtain ⟨j, hj⟩ := List.getElem?_of_mem hk
        exact hdone j k (List.getElem?_eq_some_iff.1 hj).1 hj
      have := pairs_eqv hM hMn (fun k hk => by rw [← hN2]; exact hlt k hk) hall w hw k0 hk0T
      rw [hk0e, pair_div hq, pair_mod hq] at this
      exact this
end Go.Proofs.YthomdogheamfpaaDoor
/- The law MinimLeast: the walk. -/
set_option linter.unusedVariables false
set_option linter.unusedSimpArgs false
set_option maxRecDepth 100000
namespace Go.Proofs.YthomdogheamfpaaDoor
open Go.VC Go.Lib
attribute [local irreducible] mRun gRun atRun odd7M
theorem canon_at {M : PA} {O : List Nat} {A : Option AM} (lO : LeadsC M O (stepM A) (finM A)) {i x : Nat} (hx : O[i]? = some x) : langM (paO A) i = langM M x := by
  have key : ∀ (w : List Nat) (i x : Nat), bytes5 w → O[i]? = some x → (paO A).fi ((paO A).run i w) = M.fi (M.run x w) := fun w => by
    induction w with
    | nil => intro i x _ hx; exact lO.fi i x hx
    | cons b w ih =>
      intro i x hw hx
      have hb := hw b (by simp)
      have hw' : bytes5 w := fun c hc => hw c (by simp [hc])
      obtain ⟨t, z, e1, e2, e3⟩ := lO.st i b x hx hb
      have e4 : (paO A).st i b = t := by
        show (stepM A (i : Int) b).toNat = t
        rw [e1]; simp
      show (paO A).fi ((paO A).run ((paO A).st i b) w) = M.fi (M.run (M.st x b) w)
      rw [e4, ih t z hw' e2]
      exact e3 w hw'
  funext w
  unfold langM
  by_cases hw : bytes5 w
  · rw [if_pos hw, if_pos hw, key w i x hw hx]
  · rw [if_neg hw, if_neg hw]
theorem acc_lang {a b : Option AM} (ha : StepOk a) (hb : StepOk b) (h : langM (paO a) 0 = langM (paO b) 0) (s : ByteArray) : acceptsM a s = acceptsM b s := by
  have e : ∀ o, acceptsM o s = accL o (unB s) := fun o => by rw [← acc_bA (unB_bytes s), bA_unB]
  rw [e, e, accL_lang ha (unB_bytes s), accL_lang hb (unB_bytes s), h]
set_option maxHeartbeats 16000000 in
theorem minimLeast_p (v : Value) (cells : List (BitVec 256)) (next : List (List Int)) (final : List Bool) (s : ByteArray) (S : Nat → Prop) (H : Heap) (ht : TabIn S H v cells next final) (hs : s.size ≤ 1048576) (hpow : PowH Tryd.prog H) (hE : EscH H) :
    Pure Tryd.prog 8 #[v, .string s] H (.bool true) := by
  refine FnOk.of_vc Tryd.func8 rfl (Tryd.call8 _) ?_
  (conv => whnf); refine tab_box ht fun l hl hv => ?_
  intro p H1 hp hs1 hb1 ha1
  have st1 := (St.nil H).box hp hs1 hb1 ha1
  (conv => whnf); refine pures (speaks07_p (hpow.agr st1.old) (hE.agr st1.old)) fun H2 ha2 => ?_
  have st2 := st1.call ha2
  (conv => whnf); refine tab_load hl hv (st2.blk 0 rfl) trivial ?_
  (conv => whnf); refine VCall.mk (auto07_c v cells next final S H2 (ht.frame st2.old)) ?_
  rintro va H3 ⟨ha3, hs3, hva⟩
  have st3 := st2.call ha3
  have hma : IsMade (autoOf cells next final) := ⟨_, _, _, rfl⟩
  generalize autoOf cells next final = o at *
  (conv => whnf); refine VCall.mk (canonA_c (S := Fresh H2 H3) (fun k hk => hk.2) hva hma (hpow.agr st3.old)) ?_
  rintro vm H4 ⟨ha4, c, hc, hvm⟩
  have st4 := st3.call ha4
  have hva4 : AutoV (Old H4) H4 va o := (hva.frame (ha4.mono fun k hk => hk.2)).mono fun k hk => old_lt ha4 hk.2
  have hvm4 : AutoV (Old H4) H4 vm (some c) := hvm.mono fun k hk => hk.2
  have hmc := hc.made
  have sc := hmc.steps
  have so := hma.steps
  obtain ⟨O, hI, -, lO, hcn⟩ := hc.ex
  have hlang := hc.lang
  have hl1 := (detW_len (by decide) hI).2.2.1
  have hOnd : O.Nodup := by
    unfold List.Nodup at hl1 ⊢
    rw [List.pairwise_map] at hl1
    exact hl1.imp fun h e => h (by rw [e])
  have hOle : O.length ≤ stN o := nodup_lt hOnd lO.lt
  have so2 := so.n2
  have up : ∀ {G : Heap}, Agr (Old H4) H4 G → ∀ k, Old H4 k → k < G.size := fun h k hk => old_lt h hk
  have fA : ∀ {G : Heap}, Agr (Old H4) H4 G → AutoV (Old H4) G va o := fun h => hva4.frame h
  have fM : ∀ {G : Heap}, Agr (Old H4) H4 G → AutoV (Old H4) G vm (some c) := fun h => hvm4.frame h
  have tr : ∀ {G G' : Heap}, Agr (Old H4) H4 G → Agr (Old G) G G' → Agr (Old H4) H4 G' := fun h k => h.trans (k.mono fun j hj => old_lt h hj)
  have fin : ∀ {G : Heap}, Agr (Old H4) H4 G → Agr (Old H) H G := fun h => st4.old.trans (h.mono fun k hk => old_lt st4.old hk)
  have ag0 : Agr (Old H4) H4 H4 := Agr.refl _ _
  have hss : s.size ≤ maxLen := by unfold maxLen; omega
  obtain ⟨pm, hpm⟩ : ∃ pm, vm = .pointer (some pm) := by
    obtain ⟨pm, e, -⟩ := hvm
    exact ⟨_, e⟩
  subst hpm
  (conv => whnf); refine peqS Tryd.underlying29 ?_
  (conv => whnf); refine pures (states_p (fM ag0)) fun H5 ha5 => ?_
  have g5 := tr ag0 ha5
  (conv => whnf); refine pures (states_p (fA g5)) fun H6 ha6 => ?_
  have g6 := tr g5 ha6
  have d1 : decide ((stN (some c) : Int) > (stN o : Int)) = false := decide_eq_false (by omega)
  (conv => whnf); rw [d1]
  have hq1 := accepts_p (s := s) (up g6) (fM g6) hss
  (conv => whnf); refine pures hq1 fun H7 ha7 => ?_
  have g7 := tr g6 ha7
  have hq2 := accepts_p (s := s) (up g7) (fA g7) hss
  (conv => whnf); refine pures hq2 fun H8 ha8 => ?_
  have g8 := tr g7 ha8
  (conv => whnf); refine neqZ Tryd.underlying4 (show (acceptsM (some c) s != acceptsM o s) = false by rw [acc_lang sc so hlang s]; simp) ?_
  (conv => whnf); refine VCall.mk (same_c7 (S := Old H4) (up g8) (fA g8) (fM g8) hma.ok hmc.ok) ?_
  rintro _ H9 ⟨ha9, w, ok, rfl, hR⟩
  have g9 := tr g8 ha9
  have hok : ok = false := (ask_same so sc hR).2 hlang.symm
  subst hok
  (conv => whnf); refine pures (states_p (fM g9)) fun H10 ha10 => ?_
  have g10 := tr g9 ha10
  obtain ⟨n, hn⟩ : ∃ n, n = stN (some c) := ⟨_, rfl⟩
  rw [← hn] at hcn ⊢
  by_cases h40 : n > 40
  · have d2 : decide ((n : Int) > 40) = true := decide_eq_true (by omega)
    (conv => whnf); rw [d2]
    (conv => whnf)
    exact ⟨rfl, fin g10⟩
  · have d2 : decide ((n : Int) > 40) = false := decide_eq_false (by omega)
    (conv => whnf); rw [d2]
    obtain ⟨F, hF⟩ : ∃ F, F = O.map (langM (paO o)) := ⟨_, rfl⟩
    have hFn : F.Nodup := by rw [hF]; exact hl1
    have hFl : F.length = n := by rw [hF, List.length_map]; exact hcn.symm
    have hFget : ∀ {i x : Nat}, O[i]? = some x → F[i]? = some (langM (paO o) x) := fun h => by rw [hF, List.getElem?_map, h]; rfl
    have hLst : ∀ {q b : Nat} {x : List Nat → Bool}, F[q]? = some x → b < 256 → ∃ t : Nat, stepM (some c) (q : Int) b = (t : Int) ∧ F[t]? = some (dvL x b) := fun {q b x} hx hb => by
      rw [hF, List.getElem?_map, Option.map_eq_some_iff] at hx
      obtain ⟨y, hy, rfl⟩ := hx
      obtain ⟨t, z, e1, e2, e3⟩ := lO.st q b y hy hb
      refine ⟨t, e1, ?_⟩
      rw [hFget e2, lang_eqv.2 e3, lang_st hb]
    obtain ⟨mo, hmo⟩ : ∃ mo, mo = 65537 := ⟨_, rfl⟩
    have hdet : detW mo dvL (langM (paO o) 0) = some F := by rw [hmo, hF]; exact hI
    have hmo1 : 1 ≤ mo := by omega
    unfold detW at hdet
    cases hdf : detF mo dvL (List.range 256) (langM (paO o) 0) with
    | none => rw [hdf] at hdet; cases hdet
    | some z =>
    obtain ⟨G, rowsT⟩ := z
    rw [hdf] at hdet
    simp only [Option.map_some, Option.some.injEq] at hdet
    rw [hdet] at hdf
    have hrowsT : rowsF mo dvL (List.range 256) (langM (paO o) 0) mo = some (F, rowsT) := hdf
    (conv => whnf)
    refine VLoop.mk [8, 9] (fun x : Nat × Nat => match x with | (kn, q) => [.int .i64 (kn : Int), .int .i64 (q : Int)]) (fun x G5 => match x with | (kn, q) => ∃ f rows, rowsF mo dvL (List.range 256) (langM (paO o) 0) q = some (f, rows) ∧ kn = f.length ∧ f <+: F ∧ q ≤ f.length ∧ Agr (Old H4) H4 G5) (fun x _ => 41 - x.2) ?_ ?_
    · (conv => whnf)
      refine ⟨(1, 0), rfl, [langM (paO o) 0], [], rfl, rfl, ?_, Nat.zero_le _, g10⟩
      obtain ⟨f1, rows1, e1, e2⟩ := rows_pre (most := mo) hmo1 mo 0 F rowsT (by rw [Nat.zero_add]; exact hrowsT)
      simp only [rowsF, Option.some.injEq, Prod.mk.injEq] at e1
      rw [e1.1]
      exact e2
    · rintro ⟨kn, q⟩ G5 junk5 ⟨f, rows, hrun, rfl, hpre, hq, gg5⟩
      have hple := hpre.length_le
      obtain ⟨i1, i2, -, -⟩ := rows_inv (P := fun _ => True) hmo1 trivial (fun _ _ _ => trivial) _ q f rows hrun
      by_cases hqk : q < f.length
      · have d3 : decide ((q : Int) < (f.length : Int)) = true := decide_eq_true (by omega)
        have d4 : decide ((q : Int) < (n : Int)) = true := decide_eq_true (by omega)
        obtain ⟨x, hx⟩ := get_some hqk
        have hxF := pre_get hpre hx
        obtain ⟨f1, rows1, hrun1, hpre1⟩ := rows_pre (most := mo) hmo1 (mo - (q + 1)) (q + 1) F rowsT (by rw [show q + 1 + (mo - (q + 1)) = mo by omega]; exact hrowsT)
        have hrun1' := hrun1
        simp only [rowsF] at hrun1
        rw [hrun] at hrun1
        simp only [Option.bind_some] at hrun1
        rw [hx] at hrun1
        simp only at hrun1
        cases hfl : (List.range 256).foldl (rowF mo dvL x) (some (f, [])) with
        | none => rw [hfl] at hrun1; cases hrun1
        | some z =>
        obtain ⟨f1', row1⟩ := z
        rw [hfl] at hrun1
        simp only [Option.map_some, Option.some.injEq, Prod.mk.injEq] at hrun1
        obtain ⟨rfl, rfl⟩ := hrun1
        (conv => whnf); rw [d3]
        (conv => whnf); rw [d4]
        (conv => whnf)
        refine VLoop.mk [8, 10] (fun x : Nat × Nat => match x with | (kn, b) => [.int .i64 (kn : Int), .int .i64 (b : Int)]) (fun y G6 => match y with | (kn, b) => b ≤ 256 ∧ (∃ f' row, (List.range b).foldl (rowF mo dvL x) (some (f, [])) = some (f', row) ∧ kn = f'.length ∧ f' <+: F) ∧ Agr (Old H4) H4 G6) (fun y _ => 256 - y.2) ?_ ?_
        · (conv => whnf)
          exact ⟨(f.length, 0), rfl, by decide, ⟨f, [], rfl, rfl, hpre⟩, gg5⟩
        · rintro ⟨kn, b⟩ G6 junk6 ⟨hb, ⟨f', row, hfold, rfl, hpre'⟩, gg6⟩
          have hple' := hpre'.length_le
          (conv => whnf); refine VIte.mk (fun hz => ?_) (fun hz => ?_) <;> simp only [decide_eq_true_eq, decide_eq_false_iff_not] at hz
          · have hb8 : b < 256 := by omega
            obtain ⟨t, hts, hFt⟩ := hLst hxF hb8
            have htn := (List.getElem?_eq_some_iff.1 hFt).1
            obtain ⟨f2, row2, s1, s2, s3, s4⟩ := order_stepG hb8 hFn i1 i2 hfl hpre1 hfold hFt
            (conv => whnf); refine VSeq.run ?_
            (conv => whnf); rw [w8 (x := (b : Int)) (by omega) (by omega)]
            (conv => whnf); refine pures (step_p (up gg6) (fM gg6) hb8) fun G7 ga7 => ?_
            rw [hts]
            have d5 : decide ((t : Int) < 0) = false := decide_eq_false (by omega)
            have d6 : decide ((t : Int) > (f'.length : Int)) = false := decide_eq_false (by omega)
            have d7 : decide ((t : Int) ≥ (n : Int)) = false := decide_eq_false (by omega)
            (conv => whnf); rw [d5]
            (conv => whnf); rw [d6]
            (conv => whnf); rw [d7]
            by_cases htk : t = f'.length
            · have d8 : ((t : Int) == (f'.length : Int)) = true := by rw [htk]; simp
              rw [if_pos htk] at s4
              (conv => whnf); rw [d8]
              (conv => whnf); rw [w64 (x := (f'.length : Int) + 1) (by omega) (by omega)]
              (conv => whnf); rw [w64 (x := (b : Int) + 1) (by omega) (by omega)]
              exact ⟨rfl, (f'.length + 1, b + 1), by simp, ⟨by omega, ⟨f2, row2, s1, s4.symm, s2⟩, tr gg6 ga7⟩, by simp only; omega⟩
            · have d8 : ((t : Int) == (f'.length : Int)) = false := beq_eq_false_iff_ne.2 (by omega)
              rw [if_neg htk] at s4
              (conv => whnf); rw [d8]
              (conv => whnf); rw [w64 (x := (b : Int) + 1) (by omega) (by omega)]
              exact ⟨rfl, (f'.length, b + 1), by simp, ⟨by omega, ⟨f2, row2, s1, s4.symm, s2⟩, tr gg6 ga7⟩, by simp only; omega⟩
          · obtain rfl : b = 256 := by omega
            rw [hfl] at hfold
            injection hfold with hfold
            injection hfold with e1 e2
            subst e1
            have hqf : q + 1 ≤ f1'.length := by
              have := (row_pre _ f f1' [] row1 hfl i1 i2).2.2.1.length_le
              omega
            (conv => whnf); rw [w64 (x := (q : Int) + 1) (by omega) (by omega)]
            exact ⟨rfl, (f1'.length, q + 1), by simp, ⟨f1', _, hrun1', rfl, hpre1, hqf, gg6⟩, by simp only; omega⟩
      · have d3 : decide ((q : Int) < (f.length : Int)) = false := decide_eq_false (by omega)
        have hst := rowsF_stop hrun (by omega) mo (by omega)
        rw [hrowsT] at hst
        injection hst with hst
        injection hst with e1 e2
        subst e1
        have d9 : ((F.length : Int) != (n : Int)) = false := by rw [hFl]; simp
        (conv => whnf); rw [d3]
        (conv => whnf); rw [d9]
        (conv => whnf)
        refine VLoop.mk [12] (fun x : Nat => [.int .i64 (x : Int)]) (fun x G8 => x ≤ n ∧ Agr (Old H4) H4 G8) (fun x _ => n - x) ?_ ?_
        · (conv => whnf)
          exact ⟨0, rfl, Nat.zero_le _, gg5⟩
        · rintro x G8 junk8 ⟨hxn, gg8⟩
          (conv => whnf); refine VIte.mk (fun hz => ?_) (fun hz => ?_) <;> simp only [decide_eq_true_eq, decide_eq_false_iff_not] at hz
          · (conv => whnf)
            refine VLoop.mk [13] (fun y : Nat => [.int .i64 (y : Int)]) (fun y G9 => y ≤ x ∧ Agr (Old H4) H4 G9) (fun y _ => x - y) ?_ ?_
            · (conv => whnf)
              exact ⟨0, rfl, Nat.zero_le _, gg8⟩
            · rintro y G9 junk9 ⟨hyx, gg9⟩
              (conv => whnf); refine VIte.mk (fun hz2 => ?_) (fun hz2 => ?_) <;> simp only [decide_eq_true_eq, decide_eq_false_iff_not] at hz2
              · have hne : ¬ (paO (some c)).Eqv x y := fun h => by
                  have h1 := lang_eqv.2 h
                  obtain ⟨u, hu⟩ := get_some (l := O) (k := x) (by omega)
                  obtain ⟨w, hw⟩ := get_some (l := O) (k := y) (by omega)
                  rw [canon_at lO hu, canon_at lO hw] at h1
                  have h2 := hFget hu
                  have h3 := hFget hw
                  rw [h1] at h2
                  have := at_same hFn h2 h3
                  omega
                have hq3 := told_p (S := Old H4) (up gg9) (fM gg9) (by rw [← hn]; omega) (show x < stN (some c) by omega) (show y < stN (some c) by omega) hne
                (conv => whnf); refine pures hq3 fun G10 ga10 => ?_
                (conv => whnf); rw [w64 (x := (y : Int) + 1) (by omega) (by omega)]
                exact ⟨rfl, y + 1, by simp, ⟨by omega, tr gg9 ga10⟩, by omega⟩
              · (conv => whnf); rw [w64 (x := (x : Int) + 1) (by omega) (by omega)]
                exact ⟨rfl, x + 1, by simp, ⟨by omega, gg9⟩, by omega⟩
          · (conv => whnf)
            exact ⟨rfl, fin gg8⟩
end Go.Proofs.YthomdogheamfpaaDoor
set_option linter.unusedVariables false
set_option linter.unusedSimpArgs false
namespace Go.Proofs.YthomdogheamfpaaDoor
open Go.ChangeShapes Go.WideShapes Go.ChangeAt Go.RowKit
open Go.ChangeMaps (open_string)
open Go.VC

theorem minimLeast_met (os : Os) : laidMet Tryd.prog Rows.minimLeastUptoRow.laid ((laidW7 os).forCall (fun _ _ => 0) ⟨#[], #[.agg #[.slice none 0 0, .slice none 0 0, .slice none 0 0], .string ⟨#[]⟩], []⟩).memory :=
  laidMet_of_run' 100 (by kernel_rfl) (by kernel_rfl)
theorem minimLeast_reads (os : Os) {H : Type} (enc : TypeId × Value → H) : ∃ places, DataW.whole enc Tryd.prog ((laidW7 os).forCall (fun _ _ => 0) ⟨#[], #[.agg #[.slice none 0 0, .slice none 0 0, .slice none 0 0], .string ⟨#[]⟩], []⟩).memory Tryd.f8.params.toList (Rows.OpenSpec.upto Rows.minimLeastSpec).bare.plain.vars false (#[.agg #[.slice none 0 0, .slice none 0 0, .slice none 0 0], .string ⟨#[]⟩] : Array Value).toList 8 = some ([.agg [.nil, .nil, .nil], .lit (.string [])], [], places) :=
  ⟨[], by kernel_rfl⟩
set_option maxRecDepth 100000 in
theorem minimLeast_lifted (os : Os) (started : os.Started) (H : Type) (enc : TypeId × Value → H) (F : Stop.Interp) :
    ReturnsInHanded {} Tryd.checked os 8 .any ((Rows.OpenSpec.upto Rows.minimLeastSpec).preRow enc Tryd.prog Tryd.f8 Rows.minimLeastUptoRow.domain false Rows.minimLeastUptoRow.laid) (((Rows.OpenSpec.upto Rows.minimLeastSpec).at F).post enc Tryd.prog Tryd.f8 false true false false) := by
  obtain ⟨places, hx⟩ := minimLeast_reads os enc
  refine returnsInHanded_of_row (C := Tryd.checked) (s := Rows.OpenSpec.upto Rows.minimLeastSpec) own_ started (by kernel_rfl) Tryd.func8
    (witness_row_at (enc := enc) (C := Tryd.checked) false (laidW7 os) #[.agg #[.slice none 0 0, .slice none 0 0, .slice none 0 0], .string ⟨#[]⟩] rfl (by kernel_rfl) (by kernel_rfl) (by kernel_rfl)
      (OpenSpec.preRow_of_cond 8 hx (by kernel_rfl) (fun k hk => by cases hk; kernel_rfl) (by kernel_rfl) (minimLeast_met os))) ?_
  intro W base args ds gs before hval0 hW _ hcond _ hL _ _
  have hk := hcond _ rfl
  have hval : ∀ (j : Nat) t v, Tryd.f8.params[j]? = some t → args[j]? = some v → Value.okWide Tryd.prog W .any base t v := hval0
  have hW' := hW
  obtain ⟨p, q, hA0, hV, rfl, hfz, hnd⟩ := hW
  have hA : DataW.TrodAll enc Tryd.prog W 0 (fun _ => true) true [26, 9] args.toList ds p := hA0
  obtain ⟨v0, vs0, d0, ds0, p0, q0, e0, rfl, rfl, h0, r0⟩ := trodAll_cons hA
  obtain ⟨v1, vs1, d1, ds1, p1, q1, rfl, rfl, rfl, h1, r1⟩ := trodAll_cons r0
  obtain ⟨rfl, rfl, rfl⟩ := trodAll_nil r1
  obtain rfl : args = #[v0, v1] := by cases args; simp_all
  obtain ⟨rfl, rfl⟩ := trodVars_none hV
  have hb := small_of hk
  obtain ⟨cells0, next0, final0, htab0, hz0⟩ := open_table (hval 0 _ v0 rfl rfl) h0
  obtain ⟨s1, rfl, rfl, rfl, hs1⟩ := open_string Tryd.underlying9 (hval 1 9 v1 rfl rfl) h1
  simp only [List.append_nil, Rows.uptoBulkAll, Rows.uptoBulk, Array.length_toList] at hb
  refine ((minimLeast_p v0 cells0 next0 final0 s1 (InW W) W.heap (tabIn_of htab0 (by omega)) (by have : s1.data.size = s1.size := rfl; omega) (tabs_of_laid hL).1 (tabs_of_laid hL).2) W rfl).2.mono fun e W' ⟨v, he, henv, hv, hag⟩ => ?_
  subst he; subst hv
  exact ⟨_, rfl, post_true hW' rfl ⟨rfl, rfl, rfl⟩ laid_ (by kernel_rfl) rfl Tryd.underlying4 henv hag⟩

theorem minimLeast_said : Rows.MinimLeastUptoSaid :=
  OpenClaim.holds_of_cond 8 Tryd.f8 rfl rfl rfl rfl rfl rfl rfl ⟨rfl, rfl, rfl, rfl, rfl⟩ rfl rfl rfl rfl rfl (by kernel_rfl) Tryd.func8 (by kernel_rfl)
    (of_decide_eq_true (by kernel_rfl)) (by unfold Func.isWrapper; first | (rw [if_pos (by decide +kernel)]; kernel_rfl) | (rw [if_neg (by decide +kernel)]; exact ⟨rfl, rfl⟩))
    (fun os started H enc _ F => by rw [OpenClaim.pre_eq_preRow]; exact minimLeast_lifted os started H enc F)

theorem minimLeast_plain (f : FuncId) (fn : Func) (hf : Tryd.pinned.checked.prog.funcNamed "loupe/loupelaw07.MinimLeast" = some f) (hfn : Tryd.pinned.checked.prog.funcs[f]? = some fn) :
    false = Tryd.pinned.checked.prog.looks [] ∧ ∀ (j : Nat) t, fn.params[j]? = some t → Tryd.pinned.checked.prog.wantsStandIn t = false := by
  obtain rfl : f = 8 := Option.some.inj ((show Tryd.prog.funcNamed "loupe/loupelaw07.MinimLeast" = some 8 by kernel_rfl).symm.trans hf) |>.symm
  obtain rfl : fn = Tryd.f8 := (Option.some.inj (Tryd.func8.symm.trans hfn)).symm
  refine ⟨by kernel_rfl, fun j t ht => ?_⟩
  have ht : (#[26, 9] : Array TypeId)[j]? = some t := ht
  have hm := Array.mem_of_getElem? ht
  simp only [List.mem_toArray, List.mem_cons, List.not_mem_nil, or_false] at hm
  rcases hm with rfl | rfl
  · exact (show Tryd.prog.wantsStandIn 26 = false by kernel_rfl)
  · exact (show Tryd.prog.wantsStandIn 9 = false by kernel_rfl)
theorem minimLeast_holds : Rows.MinimLeastUptoCardSaid :=
  Claim7.holds_tied_plain_at .later [] _ _ _ _ minimLeast_said (fun _ h => by cases h) (by kernel_rfl) (fun _ h => by cases h) minimLeastUpto_row_tie rfl ⟨rfl, rfl⟩ (by kernel_rfl) rfl minimLeast_plain (by kernel_rfl)

#print axioms minimLeast_holds
end Go.Proofs.YthomdogheamfpaaDoor
