import Derived.Test.YtpnnedkpbmilkaaPCatI
import Derived.Test.YtpnnedkpbmilkaaPAut09
/- Cat's and Iter's answers for the texts of at least one byte; two words one of which comes ahead; plain law. -/
set_option linter.unusedVariables false
set_option linter.unusedSimpArgs false
set_option maxRecDepth 100000
namespace Go.VC
theorem vlsss {P : Program} {t : TypeId} {x y : Operand} {a b : ByteArray} {S : Nat → Prop} {H : Heap} {K : Value → Prop} (k : K (.bool (Op.bytesLess a.toList b.toList))) : VDet P (do eqGuard .lss t x y (.string a) (.string b); binOp .lss t (.string a) (.string b)) S H K := by
  refine VDet.mk _ (fun w _ => ?_) k
  simp [run_eqGuard_string, binOp, Op.stringOp]
end Go.VC
namespace Go.Proofs.Ytpnnedkpbmilkaa
open Go.VC
def oneM : AM := madeM [BitVec.allOnes 256] [[1], [1]] [false, true]
def oneN : AM := ⟨oneM.sets, List.replicate 256 0, [[0 + 1], [0 + 1]], [false, true]⟩
theorem one_sound : soundB [BitVec.allOnes 256] [[1], [1]] 2 = true := by rfl
theorem one_same : oneM = oneN := by
  have h1 : oneM.cell = List.replicate 256 0 := by kernel_rfl
  have h2 : oneM.next = [[0 + 1], [0 + 1]] := by kernel_rfl
  have h3 : oneM.final = [false, true] := rfl
  unfold oneN
  rw [← h1, ← h2, ← h3]
theorem one_auto : autoOf [BitVec.allOnes 256] [[1], [1]] [false, true] = some oneM := by
  unfold autoOf
  rw [show soundB [BitVec.allOnes 256] [[1], [1]] [false, true].length = true from one_sound]; rfl
attribute [local irreducible] oneM mRun gRun atRun
theorem one_step {q : Int} (b : Nat) (h : q = 0 ∨ q = 1) : stepM (some oneM) q b = 1 := by
  rw [one_same]
  have hc : oneN.cell.getD b 0 = 0 := by
    show (List.replicate 256 0).getD b 0 = 0
    rw [List.getD_eq_getElem?_getD, List.getElem?_replicate]
    split <;> rfl
  rcases h with rfl | rfl
  · show ((oneN.next[0]?).getD []).getD (oneN.cell.getD b 0) 0 = 1
    rw [hc]; rfl
  · show ((oneN.next[1]?).getD []).getD (oneN.cell.getD b 0) 0 = 1
    rw [hc]; rfl
theorem one_run : ∀ (w : List Nat) (q : Int), (q = 0 ∨ q = 1) → runL (some oneM) w q = if w = [] then q else 1
  | [], q, _ => rfl
  | b :: w, q, h => by
    rw [runL_cons, one_step b h, one_run w 1 (.inr rfl)]
    split <;> simp
theorem one_fin0 : finM (some oneM) 0 = false := by rw [one_same]; rfl
theorem one_fin1 : finM (some oneM) 1 = true := by rw [one_same]; rfl
theorem one_acc (w : List Nat) {q : Int} (h : q = 0 ∨ q = 1) : finM (some oneM) (runL (some oneM) w q) = true ↔ w ≠ [] ∨ q = 1 := by
  rw [one_run w q h]
  split
  · rename_i hw
    rcases h with rfl | rfl
    · rw [one_fin0]; simp [hw]
    · rw [one_fin1]; simp
  · rename_i hw
    rw [one_fin1]; simp [hw]
theorem one_cut (w : List Nat) (i : Nat) : CutL (some oneM) (some oneM) w 0 i ↔ w.take i ≠ [] ∧ w.drop i ≠ [] := by
  unfold CutL
  rw [one_acc _ (.inl rfl), one_acc _ (.inl rfl)]
  simp
theorem zeros_least : ∀ (u : List Nat), lexL (List.replicate u.length 0) u
  | [] => lexL_refl _
  | c :: u => by
    show lexL (0 :: List.replicate u.length 0) (c :: u)
    unfold lexL
    rcases Nat.eq_zero_or_pos c with rfl | h
    · exact .inr ⟨rfl, zeros_least u⟩
    · exact .inl h
theorem one_cat : CatAns (some oneM) (some oneM) ⟨#[0, 0, 0]⟩ 1 2 true := by
  have hb : bytes_ [0, 0, 0] := fun b hb => by simp at hb; omega
  have hcut : ∀ i, CutM (some oneM) (some oneM) (bA [0, 0, 0]) i = true ↔ i = 1 ∨ i = 2 := fun i => by
    rw [cut_bA hb, one_cut]
    match i with
    | 0 => simp
    | 1 => simp
    | 2 => simp
    | i + 3 => simp
  have hl : Leads (catG (some oneM) (some oneM)) [0, 0, 0] root := (cat_root _ _ _).2 ⟨1, 2, by decide, by decide, by rw [one_cut]; simp, by rw [one_cut]; simp⟩
  refine ⟨fun _ => ⟨[0, 0, 0], rfl, ⟨⟨rfl, hb, ⟨root, rfl, hl⟩, fun u hu _ _ => ?_⟩, fun u _ hul => ?_⟩, by decide, by decide, (hcut 1).2 (.inl rfl), (hcut 2).2 (.inr rfl), fun k hk => ?_, fun k h1 h2 => by omega⟩, fun h => (by cases h)⟩
  · have := zeros_least u
    rw [hu] at this
    exact this
  · obtain ⟨n, rfl, hn⟩ := hul
    obtain ⟨i, j, h1, h2, h3, h4⟩ := (cat_root _ _ _).1 hn
    obtain ⟨k1, -⟩ := (one_cut u i).1 h3
    obtain ⟨-, k2⟩ := (one_cut u j).1 h4
    have hi : i ≠ 0 := fun e => k1 (by rw [e]; rfl)
    have hj : j < u.length := by
      apply Classical.byContradiction
      intro h
      exact k2 (List.drop_of_length_le (by omega))
    show 3 ≤ u.length
    omega
  · have : ¬ (CutM (some oneM) (some oneM) (bA [0, 0, 0]) k = true) := fun h => by have := (hcut k).1 h; omega
    exact Bool.eq_false_iff.2 this
theorem one_star : ∀ (w : List Nat), w ≠ [] → StarL (some oneM) w 0 ∧ StarL (some oneM) w 1
  | [], h => absurd rfl h
  | [c], _ => ⟨.inl (by rw [one_step c (.inl rfl)]; exact one_fin1), .inl (by rw [one_step c (.inr rfl)]; exact one_fin1)⟩
  | c :: d :: w, _ => ⟨.inl (by rw [one_step c (.inl rfl)]; exact (one_star (d :: w) (by simp)).2), .inl (by rw [one_step c (.inr rfl)]; exact (one_star (d :: w) (by simp)).2)⟩
theorem one_iter : IterAns (some oneM) [0, 0] true := by
  have hb : bytes_ [0, 0] := fun b hb => by simp at hb; omega
  have hl : Leads (iterG (some oneM)) [0, 0] root := (iter_leads0 _ 0 0).2 ⟨1, 0, [], rfl, (one_acc _ (.inl rfl)).2 (.inl (by simp)), by
    show finM _ _ = true
    rw [one_step 0 (.inl rfl)]; exact one_fin1, by
    show finM _ _ = true
    rw [one_run _ _ (.inl rfl), if_neg (by simp), one_step 0 (.inr rfl)]; exact one_fin1⟩
  refine ⟨(fun h => by rw [one_fin0] at h; cases h), fun _ => ⟨fun _ => ⟨⟨rfl, hb, ⟨root, rfl, hl⟩, fun u hu _ _ => ?_⟩, fun u _ hul => ?_⟩, (fun h => by cases h)⟩⟩
  · have := zeros_least u
    rw [hu] at this
    exact this
  · obtain ⟨n, rfl, hn⟩ := hul
    obtain ⟨i, c, r, h1, h2, -⟩ := (iter_leads0 u 0 0).1 hn
    have h3 := (one_acc _ (.inl rfl)).1 h2
    have hi : i ≠ 0 := fun e => by rw [e] at h3; simp at h3
    have hl := congrArg List.length h1
    rw [List.length_drop, List.length_cons] at hl
    show 2 ≤ u.length
    omega
/-! ### ahead -/
def aheadM (w v : ByteArray) : Bool := decide (w.size < v.size) || (decide (w.size = v.size) && Op.bytesLess w.data.toList v.data.toList)
theorem less_lex : ∀ {u v : List Nat}, u.length = v.length → bytes_ u → bytes_ v → (Op.bytesLess (u.map UInt8.ofNat) (v.map UInt8.ofNat) = true ↔ ¬ lexL v u)
  | [], [], _, _, _ => by simp [Op.bytesLess, lexL]
  | [], _ :: _, h, _, _ => by simp at h
  | _ :: _, [], h, _, _ => by simp at h
  | a :: u, b :: v, h, hu, hv => by
    have ih := less_lex (u := u) (v := v) (by simpa using h) (fun c hc => hu c (List.mem_cons_of_mem _ hc)) (fun c hc => hv c (List.mem_cons_of_mem _ hc))
    have ha := hu a List.mem_cons_self
    have hb := hv b List.mem_cons_self
    have e1 : UInt8.ofNat a < UInt8.ofNat b ↔ a < b := by
      rw [UInt8.lt_iff_toNat_lt]
      simp [Nat.mod_eq_of_lt ha, Nat.mod_eq_of_lt hb]
    have e2 : UInt8.ofNat a = UInt8.ofNat b ↔ a = b := by
      rw [← UInt8.toNat_inj]
      simp [Nat.mod_eq_of_lt ha, Nat.mod_eq_of_lt hb]
    simp only [List.map_cons, Op.bytesLess, Bool.or_eq_true, Bool.and_eq_true, decide_eq_true_eq, beq_iff_eq]
    have e3 : lexL (b :: v) (a :: u) ↔ (b < a ∨ b = a ∧ lexL v u) := Iff.rfl
    rw [e1, e2, ih, e3]
    constructor
    · rintro (h1 | ⟨rfl, h1⟩)
      · rintro (h2 | ⟨h2, -⟩) <;> omega
      · rintro (h2 | ⟨-, h2⟩)
        · omega
        · exact h1 h2
    · intro h1
      rcases Nat.lt_trichotomy a b with h2 | h2 | h2
      · exact .inl h2
      · exact .inr ⟨h2, fun h3 => h1 (.inr ⟨h2.symm, h3⟩)⟩
      · exact absurd (.inl h2) h1
/-- No word that leads to an end comes ahead of the first one. -/
theorem FirstW.not_ahead {g : Gr} {w : List Nat} (h : FirstW g (· = root) w) {s : ByteArray} (hs : Leads g (unB s) root) : aheadM s (bA w) = false := by
  have hl : (unB s).length = s.size := by unfold unB; rw [List.length_map]; rfl
  have h1 := h.2 (unB s) (unB_bytes s) ⟨root, rfl, hs⟩
  unfold aheadM
  rw [bA_size, decide_eq_false (by omega), Bool.false_or]
  by_cases he : s.size = w.length
  · rw [decide_eq_true he, Bool.true_and]
    have h2 := h.1.2.2.2 (unB s) (by rw [hl]; exact he) (unB_bytes s) ⟨root, rfl, hs⟩
    have h3 := less_lex (u := unB s) (v := w) (by rw [hl]; exact he) (unB_bytes s) h.bytes
    have e : (unB s).map UInt8.ofNat = s.data.toList := by rw [← bA_data, bA_unB]
    rw [e, ← bA_data] at h3
    exact Bool.eq_false_iff.2 fun h4 => h3.1 h4 h2
  · rw [decide_eq_false he, Bool.false_and]
end Go.Proofs.Ytpnnedkpbmilkaa

/- speaks and ahead of the laws of layer 9: the walks. -/
set_option linter.unusedVariables false
set_option linter.unusedSimpArgs false
set_option maxRecDepth 100000
namespace Go.Proofs.Ytpnnedkpbmilkaa
open Go.VC
attribute [local irreducible] oneM mRun gRun atRun
def spLits (t : ByteArray) (i j : Nat) : List Lit := [.string t.data.toList, .int .i64 (i : Int), .int .i64 (j : Int)]
theorem spLits_inj {t t' : ByteArray} {i i' j j' : Nat} : decide (t = t' ∧ i = i' ∧ j = j') = true ↔ spLits t i j = spLits t' i' j' := by
  unfold spLits
  rw [decide_eq_true_eq]
  constructor
  · rintro ⟨rfl, rfl, rfl⟩; rfl
  · intro h
    simp only [List.cons.injEq, Lit.string.injEq, Lit.int.injEq, true_and, and_true] at h
    exact ⟨text_inj h.1, by omega, by omega⟩
theorem sp_lits {t : ByteArray} {i j : Nat} (ht : t.size ≤ maxLen) (hi : i < 9223372036854775808) (hj : j < 9223372036854775808) : Try.prog.keyLits 2 80 (spL t i j) = some (spLits t i j) := by
  have c1 : Try.prog.cellsOf 80 = 3 := by kernel_rfl
  have c2 : Try.prog.cellsOf 3 = 1 := by kernel_rfl
  have c3 : Try.prog.cellsOf 9 = 1 := by kernel_rfl
  simp [Program.keyLits, Try.underlying80, Try.underlying3, Try.underlying9, c1, c2, c3, spL, spLits, ht, int_wf (inI64 hi), int_wf (inI64 hj)]
theorem sp_eq {t t' : ByteArray} {i i' j j' : Nat} (ht : t.size ≤ maxLen) (ht' : t'.size ≤ maxLen) (hi : i < 9223372036854775808) (hi' : i' < 9223372036854775808) (hj : j < 9223372036854775808) (hj' : j' < 9223372036854775808) {x y : Operand} {S : Nat → Prop} {H : Heap} {K : Value → Prop} (k : K (.bool (decide (t = t' ∧ i = i' ∧ j = j')))) :
    VDet Try.prog (do eqGuard .eql 80 x y (.agg (spL t i j).toArray) (.agg (spL t' i' j').toArray); binOp .eql 80 (.agg (spL t i j).toArray) (.agg (spL t' i' j').toArray)) S H K :=
  veq (m := 2) (la := spLits t i j) (lb := spLits t' i' j') (by kernel_rfl) (by decide) (Try.eqGuardType80) rfl rfl (sp_lits ht hi hj) (sp_lits ht' hi' hj') spLits_inj k
theorem sp_neq {t t' : ByteArray} {i i' j j' : Nat} (ht : t.size ≤ maxLen) (ht' : t'.size ≤ maxLen) (hi : i < 9223372036854775808) (hi' : i' < 9223372036854775808) (hj : j < 9223372036854775808) (hj' : j' < 9223372036854775808) {x y : Operand} {S : Nat → Prop} {H : Heap} {K : Value → Prop} (k : K (.bool (!decide (t = t' ∧ i = i' ∧ j = j')))) :
    VDet Try.prog (do eqGuard .neq 80 x y (.agg (spL t i j).toArray) (.agg (spL t' i' j').toArray); binOp .neq 80 (.agg (spL t i j).toArray) (.agg (spL t' i' j').toArray)) S H K :=
  vneq (m := 2) (la := spLits t i j) (lb := spLits t' i' j') (by kernel_rfl) (by decide) (Try.eqGuardType80) rfl rfl (sp_lits ht hi hj) (sp_lits ht' hi' hj') spLits_inj k

theorem one_c (H : Heap) : FnOk Try.prog 75 #[] H fun v' H' => Agr (Old H) H H' ∧ AutoV (Old H') H' v' (some oneM) := by
  refine FnOk.of_vc Try.func75 rfl (Try.call75 _) ?_
  (conv => whnf); refine pures (span_p 0 255 (by decide) (by decide) H) fun H1 ha1 => ?_
  rw [spanS_full]
  have hs1 := old_size ha1
  (conv => whnf); refine vbuild1 sl29 (setL (BitVec.allOnes 256)) rfl rfl (by decide) (by decide) ?_
  intro b2 H2 hb2 hs2 hk2 ha2
  (conv => whnf); refine vbuild1 sl35 [.int .i64 1] rfl rfl (by decide) (by decide) ?_
  intro b3 H3 hb3 hs3 hk3 ha3
  (conv => whnf); refine vbuild1 sl35 [.int .i64 1] rfl rfl (by decide) (by decide) ?_
  intro b4 H4 hb4 hs4 hk4 ha4
  (conv => whnf); refine vbuild2 sl23 [.slice (some ⟨b3, 0, none⟩) 1 1] [.slice (some ⟨b4, 0, none⟩) 1 1] rfl rfl rfl rfl (by decide) (by decide) ?_
  intro b5 H5 hb5 hs5 hk5 ha5
  (conv => whnf); refine vbuild2 sl24 [.bool false] [.bool true] rfl rfl rfl rfl (by decide) (by decide) ?_
  intro b6 H6 hb6 hs6 hk6 ha6
  have hk5' := hk5.agr ha6 (show b5 < b6 by omega)
  have hk4' := (hk4.agr ha5 (show b4 < b5 by omega)).agr ha6 (show b4 < b6 by omega)
  have hk3' := ((hk3.agr ha4 (show b3 < b4 by omega)).agr ha5 (show b3 < b5 by omega)).agr ha6 (show b3 < b6 by omega)
  have hk2' := (((hk2.agr ha3 (show b2 < b3 by omega)).agr ha4 (show b2 < b4 by omega)).agr ha5 (show b2 < b5 by omega)).agr ha6 (show b2 < b6 by omega)
  have hA6 : Agr (Old H) H H6 := ((((ha1.trans (ha2.mono fun k hk => by unfold Old at hk; omega)).trans (ha3.mono fun k hk => by unfold Old at hk; omega)).trans (ha4.mono fun k hk => by unfold Old at hk; omega)).trans (ha5.mono fun k hk => by unfold Old at hk; omega)).trans (ha6.mono fun k hk => by unfold Old at hk; omega)
  have i1 : SlD tI (Fresh H H6) H6 (some ⟨b3, 0, none⟩) 1 [1] := SlD.ofBlk hk3' ⟨by omega, by omega⟩ (Ty.reps_one ⟨rfl, inI64 (x := 1) (by decide)⟩) rfl (by decide)
  have i2 : SlD tI (Fresh H H6) H6 (some ⟨b4, 0, none⟩) 1 [1] := SlD.ofBlk hk4' ⟨by omega, by omega⟩ (Ty.reps_one ⟨rfl, inI64 (x := 1) (by decide)⟩) rfl (by decide)
  (conv => whnf)
  refine VCall.mk (new_c (some ⟨b2, 0, none⟩) (some ⟨b5, 0, none⟩) (some ⟨b6, 0, none⟩) 1 2 2 [BitVec.allOnes 256] [[1], [1]] [false, true] (Fresh H H6) H6 (fun k hk => hk.2)
    (SlD.ofBlk hk2' ⟨by omega, by omega⟩ (Ty.reps_one rfl) rfl (by decide)) (SlD.ofBlk hk5' ⟨by omega, by omega⟩ ⟨[_], [_], rfl, ⟨_, _, rfl, i1⟩, Ty.reps_one ⟨_, _, rfl, i2⟩⟩ rfl (by decide)) (SlD.ofBlk hk6 ⟨by omega, by omega⟩ ⟨[_], [_], rfl, rfl, Ty.reps_one rfl⟩ rfl (by decide))) ?_
  rintro v7 H7 ⟨ha7, hs7, hv7⟩
  rw [show soundB [BitVec.allOnes 256] [[1], [1]] [false, true].length = true from one_sound] at hv7
  (conv => whnf)
  refine ⟨hA6.trans (ha7.mono fun k hk => by unfold Old at *; omega), ?_⟩
  have h := hv7.mono (S' := Old H7) fun k hk => hk.2
  simp only [if_true] at h
  unfold oneM
  exact h
theorem one_cells : ∃ ls, CellsOk (some oneM) ls := by
  obtain ⟨ls, h⟩ := cells_ok [BitVec.allOnes 256] [[1], [1]] [false, true]
  rw [one_auto] at h
  exact ⟨ls, h⟩
theorem speaks09_p (H : Heap) : Pure Try.prog 49 #[] H (.bool true) := by
  refine FnOk.of_vc Try.func49 rfl (Try.call49 _) ?_
  (conv => whnf); refine VCall.mk (one_c H) ?_
  rintro v1 H1 ⟨ha1, hv1⟩
  have st1 := (St.nil H).call ha1
  (conv => whnf); refine VCall.mk (one_c H1) ?_
  rintro v2 H2 ⟨ha2, hv2⟩
  have st2 := st1.call ha2
  (conv => whnf); refine VCall.mk (cat_c (S := Old H2) (fun k hk => hk) ((hv1.frame ha2).mono fun k hk => old_lt ha2 hk) hv2 one_cells one_cells) ?_
  rintro _ H3 ⟨ha3, t, i, j, ok, rfl, hans, -⟩
  have st3 := st2.call ha3
  obtain ⟨rfl, rfl, rfl, rfl⟩ := hans.uniq one_cat
  (conv => whnf); refine valloc _ (spL ⟨#[]⟩ 0 0) split_z rfl ?_
  intro p4 H4 hp4 hs4 hb4 ha4
  have st4 := st3.box hp4 hs4 hb4 ha4
  (conv => whnf); refine stNB (cs := spL ⟨#[0, 0, 0]⟩ 1 2) st4 0 rfl rfl (show 0 + 3 ≤ 3 by decide) rfl fun H5 st5 => ?_
  rw [show splice (spL ⟨#[]⟩ 0 0) 0 (spL ⟨#[0, 0, 0]⟩ 1 2) = spL ⟨#[0, 0, 0]⟩ 1 2 from rfl] at st5
  (conv => whnf); refine VCall.mk (one_c H5) ?_
  rintro v6 H6 ⟨ha6, hv6⟩
  have st6 := st5.call ha6
  (conv => whnf); refine VCall.mk (iter_c (S := Old H6) (fun k hk => hk) hv6 one_cells) ?_
  rintro _ H7 ⟨ha7, w, ok, rfl, hans, -⟩
  have st7 := st6.call ha7
  obtain ⟨rfl, rfl⟩ := hans.uniq one_iter
  (conv => whnf); refine ldN (cs := spL ⟨#[0, 0, 0]⟩ 1 2) ag80 ((st7.blk 0 rfl).cells fun j v hv => by rw [Nat.zero_add]; exact hv) trivial ?_
  (conv => whnf); refine vbuildS Try.underlying80 rfl _ split_z (spL ⟨#[0, 0, 0]⟩ 1 2) rfl ?_
  (conv => whnf); refine sp_eq (by decide) (by decide) (by decide) (by decide) (by decide) (by decide) ?_
  rw [decide_eq_true ⟨rfl, rfl, rfl⟩]
  have e : ((bA [0, 0]).toList == (⟨#[0, 0]⟩ : ByteArray).toList) = true := beq_self_eq_true _
  (conv => whnf); rw [e]
  (conv => whnf)
  exact ⟨rfl, st7.old⟩
theorem ahead_p (w v : ByteArray) (H : Heap) : Pure Try.prog 53 #[.string w, .string v] H (.bool (aheadM w v)) := by
  refine FnOk.of_vc Try.func53 rfl (Try.call53 _) ?_
  unfold aheadM
  by_cases h1 : w.size < v.size
  · have d1 : decide ((w.size : Int) < (v.size : Int)) = true := decide_eq_true (by omega)
    rw [decide_eq_true h1]
    (conv => whnf); rw [d1]
    (conv => whnf)
    exact ⟨rfl, Agr.refl _ _⟩
  · have d1 : decide ((w.size : Int) < (v.size : Int)) = false := decide_eq_false (by omega)
    rw [decide_eq_false h1]
    (conv => whnf); rw [d1]
    by_cases h2 : w.size = v.size
    · have d2 : ((w.size : Int) == (v.size : Int)) = true := by rw [h2]; exact beq_self_eq_true _
      rw [decide_eq_true h2]
      (conv => whnf); rw [d2]
      (conv => whnf); refine vlsss ?_
      rw [ByteArray.toList_eq, ByteArray.toList_eq]
      (conv => whnf)
      exact ⟨rfl, Agr.refl _ _⟩
    · have d2 : ((w.size : Int) == (v.size : Int)) = false := beq_eq_false_iff_ne.2 (by omega)
      rw [decide_eq_false h2]
      (conv => whnf); rw [d2]
      (conv => whnf)
      exact ⟨rfl, Agr.refl _ _⟩
end Go.Proofs.Ytpnnedkpbmilkaa
