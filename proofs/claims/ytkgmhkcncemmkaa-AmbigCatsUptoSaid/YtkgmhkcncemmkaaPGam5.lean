/- The document's Cat and Iter: the walks. -/
import Derived.Test.YtkgmhkcncemmkaaPGam4
set_option linter.unusedVariables false
set_option linter.unusedSimpArgs false
set_option maxRecDepth 100000
namespace Go.VC
def res4 (t u y x : Nat) (fr : Fr) (H : Heap) (R : Value → Heap → Prop) : Prop := rdK fr t fun a => rdK fr u fun b => rdK fr y fun c => rdK fr x fun d => R (.tuple #[a, b, c, d]) H
/-- A function of four results keeps its contract if its code does. -/
theorem FnOk.of_vc4 {P : Program} {f : FuncId} {fn : Func} {c : Code} {args : Array Value} {H : Heap} {R : Value → Heap → Prop} (t u y x : Nat) (hf : P.funcs[f]? = some fn) (hb : fn.body = some c) (hr : fn.results = #[.tmp t, .tmp u, .tmp y, .tmp x])
    (hcall : ∀ w : World, (callFunc f args).run P w = .ok (.enter f args) w)
    (h : normK (args.toList ++ List.replicate (fn.ntmps - args.size) undef) fun fr => vc P c fr H (fun fr' H' => res4 t u y x fr' H' R) [] (fun fr' H' => res4 t u y x fr' H' R)) :
    FnOk P f args H R := by
  intro w hw
  subst hw
  refine ⟨hcall w, ?_⟩
  refine calls_of_wp hf hb ?_
  rw [normK_eq] at h
  have hat : At (args.toList ++ List.replicate (fn.ntmps - args.size) undef) { tmps := args ++ Array.replicate (fn.ntmps - args.size) undef, defers := [] } := ⟨by simp, rfl⟩
  refine Code.wp_mono ?_ (vc_sound c _ _ _ _ _ w hat h)
  intro e a' w' h2
  have fin : ∀ fr, At fr a' → Env w w' → res4 t u y x fr w'.heap R → a'.defers = [] ∧ ∃ v, (results fn a'.tmps).run P w' = .ok v w' ∧ ∃ v', Ending.returned v = .returned v' ∧ Env w w' ∧ R v' w'.heap := by
    intro fr h1 h2 h3
    have hrd : ∀ t, a'.tmps.getD t undef = rd fr t := fun t => h1.eval (.tmp t)
    unfold res4 at h3
    simp only [rdK_eq] at h3
    exact ⟨h1.defers, _, by simp [results, hr, hrd], _, rfl, h2, h3⟩
  cases e with
  | normal => obtain ⟨fr, h1, h2, h3⟩ := h2; exact fin fr h1 h2 h3
  | ret => obtain ⟨fr, h1, h2, h3⟩ := h2; exact fin fr h1 h2 h3
  | exit id => obtain ⟨fr, h1, h2, h3⟩ := h2; exact h3.elim
  | goto l => obtain ⟨fr, h1, h2, h3⟩ := h2; exact h3.elim
  | panic c => exact h2.elim
  | outgrown => exact h2.elim
end Go.VC
namespace Go.Proofs.Ytkgmhkcncemmkaa
open Go.VC
attribute [local irreducible] oneM mRun gRun atRun
theorem gstep_cov {it : Bool} {a b : Option AM} {A B : DM} (ho : GameO it a b A B) : ∀ c, c < 256 → ∃ r ∈ repsD A B, r ≤ c ∧ ∀ n, (gameG it a b).next n r = (gameG it a b).next n c := fun c hc => by
  obtain ⟨r, hr, hrc, h1, h2⟩ := repsD_cov A B c hc
  have hr8 := repsD_lt A B r hr
  have k1 : ∀ q, stepM a q r = stepM a q c := fun q => by rw [ho.ha.step q r hr8, ho.ha.step q c hc, h1]
  have k2 : ∀ q, stepM b q r = stepM b q c := fun q => by rw [ho.hb.step q r hr8, ho.hb.step q c hc, h2]
  refine ⟨r, hr, hrc, fun n => ?_⟩
  unfold gameG
  cases it with
  | true => exact iter_cov k1
  | false => exact cat_cov k1 k2
theorem greach {it : Bool} {a b : Option AM} {A B : DM} (ho : GameO it a b A B) : ∀ n, Reach (gameG it a b) (repsD A B) root n → GameR it a b n := fun n hn => by
  unfold GameR
  unfold gameG at hn
  cases it with
  | true =>
    induction hn with
    | refl => exact .inl ⟨rfl, ho.sa.zero, rfl⟩
    | step _ hb ht ih => exact iter_step ho.sa _ _ _ ih (repsD_lt A B _ hb) ht
  | false =>
    induction hn with
    | refl => exact .inl ⟨rfl, ho.sa.zero, rfl⟩
    | step _ hb ht ih => exact cat_step ho.sa ho.sb _ _ _ ih (repsD_lt A B _ hb) ht
theorem fill_game {la lb : List Value} {it : Bool} (ha : la.length = 259) (hb : lb.length = 259) {place : Nat → Option (Nat × Nat)} (h0 : place 0 = some (0, 259)) (h1 : place 1 = some (259, 259)) (h2 : place 2 = some (518, 1)) {z : Array Value} (hz : z.size = 519) :
    Instr.fill place z [(0, .agg la.toArray), (1, .agg lb.toArray), (2, .bool it)] = some (la ++ lb ++ [Value.bool it]).toArray := by
  have e1 : splice z.toList 0 la = la ++ z.toList.drop 259 := by
    have := splice_mid (p := []) (r := z.toList) (cs := la) (o := 0) rfl
    rw [ha] at this
    exact this
  have e2 : splice (la ++ z.toList.drop 259) 259 lb = la ++ (lb ++ z.toList.drop 518) := by
    rw [splice_mid ha, hb, List.drop_drop]
  have e3 : splice (la ++ (lb ++ z.toList.drop 518)) 518 [Value.bool it] = la ++ lb ++ [Value.bool it] := by
    rw [← List.append_assoc, splice_mid (by rw [List.length_append, ha, hb])]
    rw [List.length_singleton, List.drop_drop, List.drop_of_length_le (by simp; omega), List.append_nil]
  rw [fill_cons (off := 0) (size := 259) h0 (by simpa [Value.cells] using ha) (by omega)]
  rw [show (Value.agg la.toArray).cells.toList = la from rfl, e1]
  rw [fill_cons (off := 259) (size := 259) h1 (by simpa [Value.cells] using hb) (by simp; omega)]
  rw [show (Value.agg lb.toArray).cells.toList = lb from rfl, List.toList_toArray, e2]
  rw [fill_cons (off := 518) (size := 1) h2 rfl (by simp; omega)]
  rw [show (Value.bool it).cells.toList = [Value.bool it] from rfl, List.toList_toArray, e3]
  rfl
theorem game_z : ∃ z, (Try.prog.info? 123).bind (·.zero) = some z ∧ z.cells.size = 519 := ⟨_, rfl, by kernel_rfl⟩
set_option maxHeartbeats 4000000 in
theorem refcut_p {S : Nat → Prop} {H : Heap} {vA vB : Value} {a b : Option AM} {A B : DM} {t : ByteArray} {i : Nat} (hS : ∀ k, S k → k < H.size) (hA : DfaV S H vA A) (hB : DfaV S H vB B) (ha : Both a A) (hb : Both b B) (ht : t.size ≤ 1099511627776) (hi : i ≤ t.size) :
    Pure Try.prog 66 #[vA, vB, .string t, .int .i64 (i : Int)] H (.bool (CutM a b t i)) := by
  refine FnOk.of_vc Try.func66 rfl (Try.call66 _) ?_
  have hup : ∀ {H' : Heap} {ps : List Pc}, St H H' ps → ∀ k, S k → k < H'.size := fun st k hk => st.up (hS k hk)
  (conv => whnf); refine dfa_box hA fun ra rc na nc fa fc he a1 a2 a3 => ?_
  subst he
  intro p1 H1 hp1 hs1 hb1 ha1
  have st1 := (St.nil H).box hp1 hs1 hb1 ha1
  (conv => whnf); refine dfa_box (hB.frame (st1.old.mono hS)) fun ra' rc' na' nc' fa' fc' he b1 b2 b3 => ?_
  subst he
  intro p2 H2 hp2 hs2 hb2 ha2
  have st2 := st1.box hp2 hs2 hb2 ha2
  have fr := fun {H' : Heap} (h : Agr (Old H2) H2 H') => st2.old.trans (h.mono fun k hk => st2.up hk)
  have fr1 := st2.old.mono hS
  have fr2 : Agr S H1 H2 := ha2.mono fun k hk => by have := hup st1 k hk; omega
  have hc : CutM a b t i = (acceptsD A (t.extract 0 i) && acceptsD B (t.extract i t.size)) := by unfold CutM; rw [ha.acc, hb.acc]
  rw [hc]
  (conv => whnf); refine VDraw.quiet (Old H2) rfl (by kernel_rfl) ?_
  (conv => whnf); refine dfa_load (st2.blk 0 rfl) hA.len (st2.blk 0 rfl).lt (a1.frame fr1) (a2.frame fr1) (a3.frame fr1) fun v3 hv3 => ?_
  (conv => whnf); refine vcutSH strT (by omega) (by omega) ?_
  rw [Int.toNat_natCast]
  (conv => whnf); refine pureq (fun H' h' => refaccepts_p (fun k hk => old_lt h' (hup st2 k hk)) (hv3.frame (h'.mono fun k hk => hup st2 k hk)) ha.ok (by simp only [ByteArray.size_extract, maxLen]; omega)) ?_
  cases h1 : acceptsD A (t.extract 0 i) with
  | false =>
    (conv => whnf)
    intro H3 ha3
    (conv => whnf)
    exact ⟨rfl, fr ha3⟩
  | true =>
    (conv => whnf); refine dfa_load (st2.blk 1 rfl) hB.len (st2.blk 1 rfl).lt (b1.frame fr2) (b2.frame fr2) (b3.frame fr2) fun v4 hv4 => ?_
    (conv => whnf); refine vcutSL strT (by omega) (by omega) ?_
    rw [Int.toNat_natCast]
    (conv => whnf); refine pureq (fun H' h' => refaccepts_p (fun k hk => old_lt h' (hup st2 k hk)) (hv4.frame (h'.mono fun k hk => hup st2 k hk)) hb.ok (by simp only [ByteArray.size_extract, maxLen]; omega)) ?_
    (conv => whnf)
    intro H3 ha3
    (conv => whnf)
    exact ⟨rfl, fr ha3⟩
set_option maxHeartbeats 8000000 in
theorem refcat_c {S : Nat → Prop} {H : Heap} {vA vB : Value} {a b : Option AM} {A B : DM} (hS : ∀ k, S k → k < H.size) (hA : DfaV S H vA A) (hB : DfaV S H vB B) (ho : GameO false a b A B) (hD : (∃ u, bytes_ u ∧ Leads (catG a b) u root) → ∃ u, bytes_ u ∧ Leads (catG a b) u root ∧ u.length ≤ 1099511627776) :
    FnOk Try.prog 34 #[vA, vB] H fun v H' => Agr (Old H) H H' ∧ ∃ t i j ok, v = .tuple #[.string t, .int .i64 ((i : Nat) : Int), .int .i64 ((j : Nat) : Int), .bool ok] ∧ CatAns a b t i j ok := by
  refine FnOk.of_vc4 4 5 6 7 Try.func34 rfl rfl (Try.call34 _) ?_
  have hup : ∀ {H' : Heap} {ps : List Pc}, St H H' ps → ∀ k, S k → k < H'.size := fun st k hk => st.up (hS k hk)
  (conv => whnf); refine dfa_box hA fun ra rc na nc fa fc he a1 a2 a3 => ?_
  subst he
  intro p1 H1 hp1 hs1 hb1 ha1
  have st1 := (St.nil H).box hp1 hs1 hb1 ha1
  (conv => whnf); refine dfa_box (hB.frame (st1.old.mono hS)) fun ra' rc' na' nc' fa' fc' he b1 b2 b3 => ?_
  subst he
  intro p2 H2 hp2 hs2 hb2 ha2
  have st2 := st1.box hp2 hs2 hb2 ha2
  have hlA : (dfaL A.cell (.slice ra A.reps.length rc) (.slice na A.next.length nc) (.slice fa A.final.length fc)).length = 259 := dfaL_len hA.len
  have hlB : (dfaL B.cell (.slice ra' B.reps.length rc') (.slice na' B.next.length nc') (.slice fa' B.final.length fc')).length = 259 := dfaL_len hB.len
  generalize dfaL A.cell (.slice ra A.reps.length rc) (.slice na A.next.length nc) (.slice fa A.final.length fc) = la at *
  generalize dfaL B.cell (.slice ra' B.reps.length rc') (.slice na' B.next.length nc') (.slice fa' B.final.length fc') = lb at *
  have hldA : ∀ {H' : Heap} {ps : List Pc} {K : Value → Prop} (st : St H H' ps), ps[0]? = some (pB 38 p1 la) → K (.agg la.toArray) → VDet Try.prog (Instr.loadAt 38 (.pointer (some ⟨p1, 0, none⟩))) (fun _ => True) H' K := fun st hp hK =>
    ldN (cs := la) (by rw [hlA]; exact ag38) ((st.blk 0 hp).cells fun j v hv => by rw [Nat.zero_add]; exact hv) trivial hK
  have hldB : ∀ {H' : Heap} {ps : List Pc} {K : Value → Prop} (st : St H H' ps), ps[1]? = some (pB 38 p2 lb) → K (.agg lb.toArray) → VDet Try.prog (Instr.loadAt 38 (.pointer (some ⟨p2, 0, none⟩))) (fun _ => True) H' K := fun st hp hK =>
    ldN (cs := lb) (by rw [hlB]; exact ag38) ((st.blk 1 hp).cells fun j v hv => by rw [Nat.zero_add]; exact hv) trivial hK
  obtain ⟨z, hz, hz2⟩ := game_z
  have hg : GraphOk (gameG false a b) (repsD A B) (65536 + 2 * 4294967296) 2 := cat_ok ho.sa ho.sb (repsD_lt A B) (repsD_len A B)
  (conv => whnf); refine hldA st2 rfl ?_
  (conv => whnf); refine hldB st2 rfl ?_
  (conv => whnf); refine vbuildS Try.underlying123 rfl z hz (la ++ lb ++ [Value.bool false]) (fill_game hlA hlB rfl rfl rfl hz2) ?_
  (conv => whnf); refine VCall.mk (gfirst_c (S := S) (hup st2) ⟨la, lb, rfl, hA.frame (st2.old.mono hS), hB.frame (st2.old.mono hS)⟩ ho hg (greach ho) (gstep_cov ho) hD) ?_
  rintro _ H3 ⟨ha3, w, ok, rfl, hR⟩
  have st3 := st2.call ha3
  cases ok with
  | false =>
    obtain ⟨rfl, hno⟩ := hR.2 rfl
    (conv => whnf)
    exact ⟨st3.old, ⟨#[]⟩, 0, 0, false, rfl, ⟨fun h => (by cases h), fun _ => ⟨rfl, rfl, rfl, hno⟩⟩⟩
  | true =>
    have hw : FirstW (catG a b) (· = root) w := hR.1 rfl
    obtain ⟨i, j, h1, h2, h3, h4, h5, h6⟩ := two_cuts hw.bytes hw.leads
    obtain ⟨u, hu1, hu2, hu3⟩ := hD ⟨w, hw.bytes, hw.leads⟩
    have hwu := hw.2 u hu1 ⟨root, rfl, hu2⟩
    have hws : (bA w).size ≤ 1099511627776 := by rw [bA_size]; omega
    have hsz := bA_size w
    have hcutp : ∀ {H' : Heap} {ps : List Pc} (st : St H H' ps) (k : Nat), k ≤ w.length → Pure Try.prog 66 #[.agg la.toArray, .agg lb.toArray, .string (bA w), .int .i64 (k : Int)] H' (.bool (CutM a b (bA w) k)) := fun st k hk =>
      refcut_p (hup st) (hA.frame (st.old.mono hS)) (hB.frame (st.old.mono hS)) ho.ha ho.hb hws (by omega)
    (conv => whnf)
    refine VLoop.mk [10] (fun k : Nat => [.int .i64 (k : Int)]) (fun k H4 => k ≤ i ∧ St H H4 [pB 38 p1 la, pB 38 p2 lb]) (fun k _ => i - k) ?_ ?_
    · (conv => whnf)
      exact ⟨0, rfl, Nat.zero_le _, st3⟩
    · rintro k H4 junk4 ⟨hk, st4⟩
      (conv => whnf); refine hldA st4 rfl ?_
      (conv => whnf); refine hldB st4 rfl ?_
      (conv => whnf); refine pures (hcutp st4 k (by omega)) fun H5 ha5 => ?_
      have st5 := st4.call ha5
      by_cases hki : k = i
      · subst hki
        rw [h3]
        (conv => whnf); rw [w64 (x := (k : Int) + 1) (by omega) (by omega)]
        (conv => whnf)
        refine VLoop.mk [11] (fun l : Nat => [.int .i64 (l : Int)]) (fun l H6 => k + 1 ≤ l ∧ l ≤ j ∧ St H H6 [pB 38 p1 la, pB 38 p2 lb]) (fun l _ => j - l) ?_ ?_
        · (conv => whnf)
          exact ⟨k + 1, by simp, Nat.le_refl _, by omega, st5⟩
        · rintro l H6 junk6 ⟨hl1, hl2, st6⟩
          (conv => whnf); refine hldA st6 rfl ?_
          (conv => whnf); refine hldB st6 rfl ?_
          (conv => whnf); refine pures (hcutp st6 l (by omega)) fun H7 ha7 => ?_
          have st7 := st6.call ha7
          by_cases hlj : l = j
          · subst hlj
            rw [h4]
            (conv => whnf)
            exact ⟨st7.old, bA w, k, l, true, rfl, ⟨fun _ => ⟨w, rfl, hw, h1, h2, h3, h4, h5, h6⟩, fun h => (by cases h)⟩⟩
          · rw [h6 l (by omega) (by omega)]
            (conv => whnf); rw [w64 (x := (l : Int) + 1) (by omega) (by omega)]
            exact ⟨rfl, l + 1, by simp, ⟨by omega, by omega, st7⟩, by omega⟩
      · rw [h5 k (by omega)]
        (conv => whnf); rw [w64 (x := (k : Int) + 1) (by omega) (by omega)]
        exact ⟨rfl, k + 1, by simp, ⟨by omega, st5⟩, by omega⟩
set_option maxHeartbeats 8000000 in
theorem refiter_c {S : Nat → Prop} {H : Heap} {vA : Value} {a : Option AM} {A : DM} (hS : ∀ k, S k → k < H.size) (hA : DfaV S H vA A) (ho : GameO true a a A A) (hD : finM a 0 = false → (∃ u, bytes_ u ∧ Leads (iterG a) u root) → ∃ u, bytes_ u ∧ Leads (iterG a) u root ∧ u.length ≤ 1099511627776) :
    FnOk Try.prog 36 #[vA] H fun v H' => Agr (Old H) H H' ∧ ∃ w ok, v = .tuple #[.string (bA w), .bool ok] ∧ IterAns a w ok := by
  have afl := ho.ha.ok.fl
  have an1 := ho.ha.ok.n1
  refine FnOk.of_vc Try.func36 rfl (Try.call36 _) ?_
  have hup : ∀ {H' : Heap} {ps : List Pc}, St H H' ps → ∀ k, S k → k < H'.size := fun st k hk => st.up (hS k hk)
  (conv => whnf); refine dfa_box hA fun ra rc na nc fa fc he a1 a2 a3 => ?_
  subst he
  intro p1 H1 hp1 hs1 hb1 ha1
  have st1 := (St.nil H).box hp1 hs1 hb1 ha1
  have hlA : (dfaL A.cell (.slice ra A.reps.length rc) (.slice na A.next.length nc) (.slice fa A.final.length fc)).length = 259 := dfaL_len hA.len
  (conv => whnf); refine VC.fa fl38_3 ?_
  (conv => whnf); refine ld1 ct24 (by rw [hb1.cell, Nat.zero_add]; exact dfaL_258 hA.len) trivial ?_
  (conv => whnf); refine fin_ix (x := 0) (a3.frame (st1.old.mono hS)) (Int.le_refl _) (by omega) fun b2 o2 hS2 hc2 => ?_
  (conv => whnf); refine ld1 ct4 hc2 trivial ?_
  rw [← ho.ha.fin]
  cases hf : finM a 0 with
  | true =>
    (conv => whnf)
    exact ⟨st1.old, [], true, rfl, ⟨fun _ => ⟨rfl, rfl⟩, (fun h => by rw [hf] at h; cases h)⟩⟩
  | false =>
    generalize dfaL A.cell (.slice ra A.reps.length rc) (.slice na A.next.length nc) (.slice fa A.final.length fc) = la at *
    obtain ⟨z, hz, hz2⟩ := game_z
    have hg : GraphOk (gameG true a a) (repsD A A) (65536 + 1 * 4294967296) 4 := iter_ok ho.sa (repsD_lt A A) (repsD_len A A)
    (conv => whnf); refine ldN (cs := la) (by rw [hlA]; exact ag38) ((st1.blk 0 rfl).cells fun j v hv => by rw [Nat.zero_add]; exact hv) trivial ?_
    (conv => whnf); refine ldN (cs := la) (by rw [hlA]; exact ag38) ((st1.blk 0 rfl).cells fun j v hv => by rw [Nat.zero_add]; exact hv) trivial ?_
    (conv => whnf); refine vbuildS Try.underlying123 rfl z hz (la ++ la ++ [Value.bool true]) (fill_game hlA hlA rfl rfl rfl hz2) ?_
    (conv => whnf); refine VCall.mk (gfirst_c (S := S) (hup st1) ⟨la, la, rfl, hA.frame (st1.old.mono hS), hA.frame (st1.old.mono hS)⟩ ho hg (greach ho) (gstep_cov ho) (hD hf)) ?_
    rintro _ H3 ⟨ha3, w, ok, rfl, hR⟩
    have st3 := st1.call ha3
    (conv => whnf)
    exact ⟨st3.old, w, ok, rfl, ⟨(fun h => by rw [hf] at h; cases h), fun _ => hR⟩⟩
end Go.Proofs.Ytkgmhkcncemmkaa
