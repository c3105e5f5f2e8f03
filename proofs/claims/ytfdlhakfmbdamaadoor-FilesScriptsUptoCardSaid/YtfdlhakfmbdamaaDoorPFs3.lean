/- files.New, System.Read, System.Write: the walks. -/
import Derived.Test.YtfdlhakfmbdamaaDoorPFs2
set_option linter.unusedVariables false
set_option linter.unusedSimpArgs false
set_option maxRecDepth 100000
namespace Go.VC
theorem StB.sub {B : Nat → Prop} {H0 H : Heap} {ps qs : List Pc} (st : StB B H0 H ps) (h : List.Sublist qs ps) : StB B H0 H qs :=
  ⟨st.old, st.lt0, st.size, fun p hp => st.oks p (h.subset hp), fun p hp => st.rng p (h.subset hp), st.dis.sublist h⟩
end Go.VC
namespace Go.Proofs.YtfdlhakfmbdamaaDoor
open Go.VC
/-! ### the plain law -/
def ltT (a b : ByteArray) : Bool := decide (a.data.toList < b.data.toList)
def layM : List (ByteArray × ByteArray) → ByteArray → ByteArray → List (ByteArray × ByteArray)
  | [], n, d => [(n, d)]
  | p :: r, n, d => if ltT p.1 n then p :: layM r n d else if p.1 = n then (n, d) :: r else (n, d) :: p :: r
theorem ltT_irr (a : ByteArray) : ltT a a = false := decide_eq_false (List.lt_irrefl _)
theorem ltT_trans {a b c : ByteArray} (h : ltT a b = true) (k : ltT b c = true) : ltT a c = true :=
  decide_eq_true (List.lt_trans (of_decide_eq_true h) (of_decide_eq_true k))
theorem ltT_ne {a b : ByteArray} (h : ltT a b = true) : a ≠ b := fun e => by rw [e, ltT_irr] at h; cases h
theorem ltT_total {a b : ByteArray} (h : ltT a b = false) (hne : a ≠ b) : ltT b a = true := by
  refine decide_eq_true ?_
  have h := of_decide_eq_false h
  rcases List.le_total a.data.toList b.data.toList with k | k
  · exfalso
    refine hne ?_
    exact ByteArray.ext (Array.toList_inj.1 (List.le_antisymm k (List.not_lt.1 h)))
  · rcases Classical.em (b.data.toList < a.data.toList) with h1 | h1
    · exact h1
    · exact absurd (ByteArray.ext (Array.toList_inj.1 (List.le_antisymm (List.not_lt.1 h1) k))) hne
theorem lookF_lay (d : ByteArray) (n a : ByteArray) : ∀ l : List (ByteArray × ByteArray), lookF (layM l n d) a = if a = n then some d else lookF l a
  | [] => by
    unfold layM lookF
    by_cases h : a = n
    · subst h; simp
    · simp [h, Ne.symm h]
  | p :: r => by
    have ih := lookF_lay d n a r
    unfold layM
    unfold lookF at ih ⊢
    by_cases h1 : ltT p.1 n = true
    · rw [if_pos h1, List.find?_cons, List.find?_cons]
      by_cases h2 : p.1 = a
      · have : a ≠ n := by rw [← h2]; exact ltT_ne h1
        simp [h2, this]
      · simp only [h2, decide_false, cond_false]
        exact ih
    · rw [if_neg h1]
      by_cases h3 : p.1 = n
      · rw [if_pos h3, List.find?_cons, List.find?_cons]
        by_cases h : a = n
        · subst h; simp
        · have h4 : p.1 ≠ a := fun e => h (e.symm.trans h3)
          simp [h, Ne.symm h, h4]
      · rw [if_neg h3, List.find?_cons]
        by_cases h : a = n
        · subst h; simp
        · simp [h, Ne.symm h]
theorem fileV_lay (l : List (ByteArray × ByteArray)) (n d a : ByteArray) : put (fileV l) n (some (.agg #[.string d])) a = fileV (layM l n d) a := by
  unfold fileV
  rw [lookF_lay]
  by_cases h : a = n
  · subst h; rw [put_self, if_pos rfl]; rfl
  · rw [put_ne h, if_neg h]
/-- The names rise. -/
def Rise (l : List (ByteArray × ByteArray)) : Prop := l.Pairwise fun p q => ltT p.1 q.1 = true
theorem Rise.nodup {l : List (ByteArray × ByteArray)} (h : Rise l) : (l.map (·.1)).Nodup := by
  unfold List.Nodup
  rw [List.pairwise_map]
  exact List.Pairwise.imp (fun h => ltT_ne h) h
theorem lay_mem {l : List (ByteArray × ByteArray)} {n d : ByteArray} : ∀ {q : ByteArray × ByteArray}, q ∈ layM l n d → q = (n, d) ∨ q ∈ l := by
  induction l with
  | nil => intro q hq; unfold layM at hq; exact .inl (List.mem_singleton.1 hq)
  | cons p r ih =>
    intro q hq
    unfold layM at hq
    split at hq
    · rcases List.mem_cons.1 hq with rfl | hq
      · exact .inr List.mem_cons_self
      · rcases ih hq with h | h
        · exact .inl h
        · exact .inr (List.mem_cons_of_mem _ h)
    · split at hq
      · rcases List.mem_cons.1 hq with h | h
        · exact .inl h
        · exact .inr (List.mem_cons_of_mem _ h)
      · rcases List.mem_cons.1 hq with h | h
        · exact .inl h
        · exact .inr h
theorem Rise.lay {l : List (ByteArray × ByteArray)} (h : Rise l) (n d : ByteArray) : Rise (layM l n d) := by
  induction l with
  | nil => exact List.pairwise_singleton _ _
  | cons p r ih =>
    obtain ⟨h1, h2⟩ := List.pairwise_cons.1 h
    unfold layM
    split
    · rename_i hlt
      refine List.pairwise_cons.2 ⟨fun q hq => ?_, ih h2⟩
      rcases lay_mem hq with rfl | hq
      · exact hlt
      · exact h1 q hq
    · rename_i hlt
      split
      · rename_i he
        exact List.pairwise_cons.2 ⟨fun q hq => by rw [← he]; exact h1 q hq, h2⟩
      · rename_i he
        have := ltT_total (by simpa using hlt) he
        refine List.pairwise_cons.2 ⟨fun q hq => ?_, h⟩
        rcases List.mem_cons.1 hq with rfl | hq
        · exact this
        · exact ltT_trans this (h1 q hq)
def addM (l : List (ByteArray × ByteArray)) (f : ByteArray × ByteArray) : List (ByteArray × ByteArray) := if goodM f.1 && roomM l f.1 then layM l f.1 f.2 else l
def layAll (l : List (ByteArray × ByteArray)) : List (ByteArray × ByteArray) := l.foldl addM []
theorem layAll_snoc (l : List (ByteArray × ByteArray)) (f : ByteArray × ByteArray) : layAll (l ++ [f]) = addM (layAll l) f := by
  unfold layAll; rw [List.foldl_append]; rfl
theorem Rise.add {l : List (ByteArray × ByteArray)} (h : Rise l) (f : ByteArray × ByteArray) : Rise (addM l f) := by
  unfold addM
  split
  · exact h.lay _ _
  · exact h
theorem layAll_rise (l : List (ByteArray × ByteArray)) : Rise (layAll l) := by
  unfold layAll
  have : ∀ (l l0 : List (ByteArray × ByteArray)), Rise l0 → Rise (l.foldl addM l0) := fun l => by
    induction l with
    | nil => exact fun _ h => h
    | cons p r ih => exact fun l0 h => ih _ (h.add p)
  exact this l [] List.Pairwise.nil
theorem lookB_snoc (l : List (Bool × Int × Int)) (x : Bool × Int × Int) (w : Bool) (c : Int) : lookB (l ++ [x]) w c = (lookB l w c).or (if (x.1 == w) && decide (x.2.1 = c) then some x else none) := by
  unfold lookB
  rw [List.find?_append]
  congr 1
  cases h : ((x.1 == w) && decide (x.2.1 = c)) <;> simp [List.find?, h]
def rdT : ByteArray := ⟨#[114, 101, 97, 100]⟩
def wrT : ByteArray := ⟨#[119, 114, 105, 116, 101]⟩
abbrev tFile : Ty (ByteArray × ByteArray) := tPair tStr tStr
abbrev tBrk : Ty (Bool × Int × Int) := tPair tBool (tPair (tInt .i64) (tInt .i64))
def fileL (p : ByteArray × ByteArray) : List Value := [.string p.1, .string p.2]
theorem file_rep {S : Nat → Prop} {H : Heap} {c : List Value} {p : ByteArray × ByteArray} (h : tFile.rep S H c p) : c = fileL p ∧ p.1.size ≤ maxLen ∧ p.2.size ≤ maxLen := by
  obtain ⟨c1, d1, rfl, ⟨rfl, h1⟩, ⟨rfl, h2⟩⟩ := h
  exact ⟨rfl, h1, h2⟩
theorem brk_rep {S : Nat → Prop} {H : Heap} {c : List Value} {x : Bool × Int × Int} (h : tBrk.rep S H c x) : c = breakL x := by
  obtain ⟨c1, d1, rfl, rfl, ⟨c2, d2, rfl, ⟨rfl, h1⟩, ⟨rfl, h2⟩⟩⟩ := h
  rfl
def sysL (s fm rm wm : Nat) (x : Fs) : List Pc := [pM Value.string fm (fileV x.files), pB 83 s (sysC fm rm wm x.reads x.writes), pM (Value.int .i64) rm (failV x.fails false), pM (Value.int .i64) wm (failV x.fails true)]
def newM (files : List (ByteArray × ByteArray)) (fails : List (Bool × Int × Int)) : Fs := ⟨layAll files, fails, 0, 0⟩
theorem mapF_emp (enc : ByteArray → Value) (b : Nat) : pM enc b (fun _ => none) = pM enc b (fileV []) := rfl
theorem mapB_emp (enc : Int → Value) (b : Nat) (w : Bool) : pM enc b (fun _ => none) = pM enc b (failV [] w) := rfl
theorem g4 {α : Type} (ps : List α) (l : List α) (j : Nat) : (ps ++ l)[ps.length + j]? = l[j]? := by
  rw [List.getElem?_append_right (Nat.le_add_right _ _)]; congr 1; omega
theorem s4 {α : Type} (ps : List α) (l : List α) (j : Nat) (x : α) : (ps ++ l).set (ps.length + j) x = ps ++ l.set j x := by
  rw [List.set_append_right _ _ (Nat.le_add_right _ _)]; congr 2; omega
theorem failV_snoc (l : List (Bool × Int × Int)) (x : Bool × Int × Int) (w : Bool) (h : x.1 ≠ w ∨ (lookB l w x.2.1).isSome = true) : failV (l ++ [x]) w = failV l w := by
  funext c
  unfold failV
  rw [lookB_snoc]
  rcases h with h | h
  · have : (x.1 == w) = false := beq_eq_false_iff_ne.2 h
    rw [this, Bool.false_and]
    cases lookB l w c <;> rfl
  · by_cases hc : x.2.1 = c
    · subst hc
      obtain ⟨y, hy⟩ := Option.isSome_iff_exists.1 h
      rw [hy]; rfl
    · rw [decide_eq_false hc, Bool.and_false]
      cases lookB l w c <;> rfl
theorem failV_put (l : List (Bool × Int × Int)) (x : Bool × Int × Int) (w : Bool) (h : x.1 = w) (hn : (lookB l w x.2.1).isSome = false) (c : Int) : put (failV l w) x.2.1 (some (breakV x)) c = failV (l ++ [x]) w c := by
  unfold failV
  rw [lookB_snoc, beq_iff_eq.2 h, Bool.true_and]
  by_cases hc : c = x.2.1
  · subst hc
    rw [put_self, decide_eq_true rfl]
    cases hl : lookB l w x.2.1 with
    | none => rfl
    | some y => rw [hl] at hn; cases hn
  · rw [put_ne hc, decide_eq_false (fun e => hc e.symm)]
    cases lookB l w c <;> rfl
set_option maxHeartbeats 8000000 in
theorem new_p {B : Nat → Prop} {H0 H : Heap} {ps : List Pc} {i1 i2 n1 n2 cap1 cap2 : Nat} {a1 a2 : Option Addr} {files : List (ByteArray × ByteArray)} {fails : List (Bool × Int × Int)} (st : StB B H0 H ps) (hf : ps[i1]? = some (pS tFile 33 a1 n1 cap1 files)) (hb : ps[i2]? = some (pS tBrk 68 a2 n2 cap2 fails)) :
    FnOk Tryd.prog 17 #[.slice a1 n1 cap1, .slice a2 n2 cap2] H fun v H' => ∃ s fm rm wm, v = .pointer (some ⟨s, 0, none⟩) ∧ StB B H0 H' (ps ++ sysL s fm rm wm (newM files fails)) := by
  have hn1 := st.len i1 hf
  have hn2 := st.len i2 hb
  have hm1 := st.max i1 hf
  have hm2 := st.max i2 hb
  unfold maxLen at hm1 hm2
  refine FnOk.of_vc Tryd.func17 rfl (Tryd.call17 _) ?_
  (conv => whnf); refine mmake (enc := Value.string) ?_
  intro fm H1 hq1 hs1 hm1' ha1
  have st1 := st.mapNew hq1 hs1 hm1' ha1
  (conv => whnf); refine vbuildS Tryd.underlying83 rfl _ rfl [.map (some fm), .int .i64 0, .map none, .int .i64 0, .map none] rfl ?_
  (conv => whnf); refine vbox [.map (some fm), .int .i64 0, .map none, .int .i64 0, .map none] rfl ?_
  intro s H2 hq2 hs2 hb2 ha2
  have st2 := st1.box hq2 hs2 hb2 ha2
  (conv => whnf); refine mmake (enc := Value.int .i64) ?_
  intro rm H3 hq3 hs3 hm3 ha3
  have st3 := st2.mapNew hq3 hs3 hm3 ha3
  (conv => whnf); refine mmake (enc := Value.int .i64) ?_
  intro wm H4 hq4 hs4 hm4 ha4
  have st4 := st3.mapNew hq4 hs4 hm4 ha4
  simp only [List.append_assoc, List.cons_append, List.nil_append] at st4
  (conv => whnf); refine VC.fa fl83_1 ?_
  (conv => whnf); refine VC.fa fl81_1 ?_
  (conv => whnf); refine st1B st4 (ps.length + 1) ct79 (g4 ps _ 1) (by simp) rfl fun H5 st5 => ?_
  rw [s4] at st5
  (conv => whnf); refine VC.fa fl83_2 ?_
  (conv => whnf); refine VC.fa fl81_1 ?_
  (conv => whnf); refine st1B st5 (ps.length + 1) ct79 (g4 ps _ 1) (by simp) rfl fun H6 st6 => ?_
  rw [s4] at st6
  have st7 : StB B H0 H6 (ps ++ sysL s fm rm wm (newM [] [])) := st6
  (conv => whnf)
  refine VLoop.mk [28] (fun k : Nat => [.int .i64 (k : Int)]) (fun k G => k ≤ files.length ∧ StB B H0 G (ps ++ sysL s fm rm wm (newM (files.take k) []))) (fun k _ => files.length - k) ?_ ?_
  · (conv => whnf)
    exact ⟨0, rfl, Nat.zero_le _, st7⟩
  · rintro k G junk ⟨hk, stg⟩
    (conv => whnf); refine VIte.mk (fun hz => ?_) (fun hz => ?_) <;> simp only [decide_eq_true_eq, decide_eq_false_iff_not] at hz
    · have hkl : k < files.length := by omega
      obtain ⟨f, hfk⟩ : ∃ f, files[k]? = some f := ⟨files[k], List.getElem?_eq_getElem hkl⟩
      have htk : files.take (k + 1) = files.take k ++ [f] := by rw [List.take_add_one, hfk]; rfl
      have hris := layAll_rise (files.take k)
      (conv => whnf); refine VSeq.run ?_
      (conv => whnf); refine ixO sl31 stg i1 (getL hf) hfk rfl ?_
      intro bb oo cc hbb hcc hrr
      obtain ⟨rfl, hz1, hz2⟩ := file_rep hrr
      (conv => whnf); refine ldN (cs := fileL f) ag33 hcc trivial ?_
      (conv => whnf); refine valloc (.agg #[.string ⟨#[]⟩, .string ⟨#[]⟩]) [.string ⟨#[]⟩, .string ⟨#[]⟩] rfl rfl ?_
      intro q1 G1 hq1 hs1 hb1 ha1
      have sg1 := stg.box hq1 hs1 hb1 ha1
      (conv => whnf); refine stNB2 (cs := fileL f) sg1 (ps ++ sysL s fm rm wm (newM (files.take k) [])).length rfl (getR _ _ _) (by simp [fileL]) (by simp [fileL]; exact ⟨rfl, rfl⟩) fun G2 sg2 ga2 gs2 => ?_
      rw [setR_] at sg2
      have hb2 : Blk G2 q1 33 (fileL f) := sg2.blk _ (getR _ _ _)
      (conv => whnf); refine VC.fa fl33_0 ?_
      (conv => whnf); refine ld1 (v := .string f.1) ct9 (by rw [hb2.cell]; rfl) trivial ?_
      (conv => whnf); refine pures (good_p hz1) fun G3 ga3 => ?_
      have sg3 := sg2.call ga3
      have hb3 := sg3.blk _ (getR (ps ++ sysL s fm rm wm (newM (files.take k) [])) [] (pB 33 q1 (fileL f)))
      have sg4 := sg3.left
      cases hgd : goodM f.1 with
      | false =>
        have hadd : layAll (files.take (k + 1)) = layAll (files.take k) := by rw [htk, layAll_snoc]; unfold addM; rw [hgd]; rfl
        (conv => whnf); rw [w64 (x := (k : Int) + 1) (by omega) (by omega)]
        refine ⟨rfl, k + 1, rfl, ⟨by omega, ?_⟩, by omega⟩
        show StB B H0 G3 (ps ++ sysL s fm rm wm ⟨layAll (files.take (k + 1)), [], 0, 0⟩)
        rw [hadd]; exact sg4
      | true =>
        (conv => whnf); refine VC.fa fl33_0 ?_
        (conv => whnf); refine ld1 (v := .string f.1) ct9 (by rw [hb3.cell]; rfl) trivial ?_
        have hbs := sg4.blk (ps.length + 1) (g4 ps _ 1)
        have hms : MapF Value.string G3 fm (fileV (layAll (files.take k))) := sg4.at_ (ps.length + 0) (g4 ps _ 0)
        (conv => whnf); refine pures (room_p hbs rfl hms hris.nodup) fun G5 ga5 => ?_
        have sg5 := sg3.call ga5
        have hb5 := sg5.blk _ (getR (ps ++ sysL s fm rm wm (newM (files.take k) [])) [] (pB 33 q1 (fileL f)))
        have sg6 := sg5.left
        have hbs6 := sg6.blk (ps.length + 1) (g4 ps _ 1)
        cases hrm : roomM (layAll (files.take k)) f.1 with
        | false =>
          have hadd : layAll (files.take (k + 1)) = layAll (files.take k) := by rw [htk, layAll_snoc]; unfold addM; rw [hgd, hrm]; rfl
          (conv => whnf); rw [w64 (x := (k : Int) + 1) (by omega) (by omega)]
          refine ⟨rfl, k + 1, rfl, ⟨by omega, ?_⟩, by omega⟩
          show StB B H0 G5 (ps ++ sysL s fm rm wm ⟨layAll (files.take (k + 1)), [], 0, 0⟩)
          rw [hadd]; exact sg6
        | true =>
          have hadd : layAll (files.take (k + 1)) = layM (layAll (files.take k)) f.1 f.2 := by rw [htk, layAll_snoc]; unfold addM; rw [hgd, hrm]; rfl
          (conv => whnf); refine VDraw.held (Old G5) 9 (sq [0,1,2,3,4,5,6,7,8] (.f 9 .e)) rfl (by kernel_rfl) ?_
          (conv => whnf); refine VC.fa fl83_0 ?_
          (conv => whnf); refine ld1 (v := .map (some fm)) ct76 (by rw [hbs6.cell]; rfl) hbs6.lt ?_
          (conv => whnf); refine VC.fa fl33_0 ?_
          (conv => whnf); refine ld1 (v := .string f.1) ct9 (by rw [hb5.cell]; rfl) hb5.lt ?_
          (conv => whnf); refine VC.fa fl33_1 ?_
          (conv => whnf); refine ld1 (v := .string f.2) ct9 (by rw [hb5.cell]; rfl) hb5.lt ?_
          (conv => whnf); refine vbuildS Tryd.underlying78 rfl _ rfl [.string f.2] rfl ?_
          (conv => whnf); refine mputP (a := f.1) (m' := fileV (layAll (files.take (k + 1)))) sg6 (ps.length + 0) mapFi keyS (g4 ps _ 0) (fun a' => by rw [hadd]; exact fileV_lay _ _ _ _) fun G7 sg7 => ?_
          rw [s4] at sg7
          (conv => whnf); rw [w64 (x := (k : Int) + 1) (by omega) (by omega)]
          exact ⟨rfl, k + 1, rfl, ⟨by omega, sg7⟩, by omega⟩
    · obtain rfl : k = files.length := by omega
      rw [List.take_length] at stg
      (conv => whnf)
      refine VLoop.mk [53] (fun k : Nat => [.int .i64 (k : Int)]) (fun k G => k ≤ fails.length ∧ StB B H0 G (ps ++ sysL s fm rm wm (newM files (fails.take k)))) (fun k _ => fails.length - k) ?_ ?_
      · (conv => whnf)
        exact ⟨0, rfl, Nat.zero_le _, stg⟩
      · rintro k G junk ⟨hk, stg⟩
        (conv => whnf); refine VIte.mk (fun hz => ?_) (fun hz => ?_) <;> simp only [decide_eq_true_eq, decide_eq_false_iff_not] at hz
        · have hkl : k < fails.length := by omega
          obtain ⟨f, hfk⟩ : ∃ f, fails[k]? = some f := ⟨fails[k], List.getElem?_eq_getElem hkl⟩
          have htk : fails.take (k + 1) = fails.take k ++ [f] := by rw [List.take_add_one, hfk]; rfl
          (conv => whnf); refine VSeq.run ?_
          (conv => whnf); refine ixO sl64 stg i2 (getL hb) hfk rfl ?_
          intro bb oo cc hbb hcc hrr
          obtain rfl := brk_rep hrr
          (conv => whnf); refine ldN (cs := breakL f) ag68 hcc trivial ?_
          (conv => whnf); refine valloc (breakV (false, 0, 0)) (breakL (false, 0, 0)) rfl rfl ?_
          intro q1 G1 hq1 hs1 hb1 ha1
          have sg1 := stg.box hq1 hs1 hb1 ha1
          (conv => whnf); refine stNB2 (cs := breakL f) sg1 (ps ++ sysL s fm rm wm (newM files (fails.take k))).length rfl (getR _ _ _) (by simp [breakL]) (by simp [breakL]; exact ⟨rfl, rfl, rfl⟩) fun G2 sg2 ga2 gs2 => ?_
          rw [setR_, splice_all (l := breakL (false, 0, 0)) (cs := breakL f) rfl] at sg2
          have hb2 : Blk G2 q1 68 (breakL f) := sg2.blk _ (getR _ _ _)
          have hbs := sg2.left.blk (ps.length + 1) (g4 ps _ 1)
          have hmr : MapF (Value.int .i64) G2 rm (failV (fails.take k) false) := sg2.left.at_ (ps.length + 2) (g4 ps _ 2)
          have hmw : MapF (Value.int .i64) G2 wm (failV (fails.take k) true) := sg2.left.at_ (ps.length + 3) (g4 ps _ 3)
          (conv => whnf); refine VC.fa fl83_1 ?_
          (conv => whnf); refine VC.fa fl81_1 ?_
          (conv => whnf); refine ld1 (v := .map (some rm)) ct79 (by rw [hbs.cell]; rfl) trivial ?_
          (conv => whnf); refine VSeq.run ?_
          (conv => whnf); refine VC.fa fl68_0 ?_
          (conv => whnf); refine ld1 (v := .bool f.1) ct4 (by rw [hb2.cell]; rfl) trivial ?_
          cases hw : f.1 with
          | true =>
            (conv => whnf); try (refine VSeq.run ?_)
            (conv => whnf); refine VC.fa fl83_2 ?_
            (conv => whnf); refine VC.fa fl81_1 ?_
            (conv => whnf); refine ld1 (v := .map (some wm)) ct79 (by rw [hbs.cell]; rfl) trivial ?_
            have hother : failV (fails.take (k + 1)) false = failV (fails.take k) false := by rw [htk]; exact failV_snoc _ _ _ (.inl (by rw [hw]; decide))
            (conv => whnf); refine VC.fa fl68_1 ?_
            (conv => whnf); refine ld1 (v := .int .i64 f.2.1) ct3 (by rw [hb2.cell]; rfl) trivial ?_
            (conv => whnf); refine mlookOk (a := f.2.1) mapFa (keyI .i64) hmw trivial ?_
            rw [hit_get, hit_some]
            (conv => whnf); refine valloc (breakV (false, 0, 0)) (breakL (false, 0, 0)) rfl rfl ?_
            intro q3 G3 hq3 hs3 hb3 ha3
            have sg3 := sg2.box hq3 hs3 hb3 ha3
            (conv => whnf); refine stNB2 (cs := breakL (hitM (fails.take k) true f.2.1)) sg3 (ps ++ sysL s fm rm wm (newM files (fails.take k)) ++ [pB 68 q1 (breakL f)]).length rfl (getR _ _ _) (by simp [breakL]) (by simp [breakL]; exact ⟨rfl, rfl, rfl⟩) fun G4 sg4 ga4 gs4 => ?_
            rw [setR_] at sg4
            have sg5 := sg4.left
            have hb5 : Blk G4 q1 68 (breakL f) := sg5.blk _ (getR _ _ _)
            cases hlk : (lookB (fails.take k) true f.2.1).isSome with
            | true =>
              have hsame : failV (fails.take (k + 1)) true = failV (fails.take k) true := by rw [htk]; exact failV_snoc _ _ _ (.inr hlk)
              (conv => whnf); rw [w64 (x := (k : Int) + 1) (by omega) (by omega)]
              refine ⟨rfl, k + 1, rfl, ⟨by omega, ?_⟩, by omega⟩
              have sg6 := sg5.left
              unfold sysL newM at sg6 ⊢
              rw [hother, hsame]
              exact sg6
            | false =>
              (conv => whnf); refine VC.fa fl68_1 ?_
              (conv => whnf); refine ld1 (v := .int .i64 f.2.1) ct3 (by rw [hb5.cell]; rfl) trivial ?_
              (conv => whnf); refine ldN (cs := breakL f) ag68 (hb5.cells (fun j v hv => by rw [Nat.zero_add]; exact hv)) trivial ?_
              (conv => whnf); refine mputP (a := f.2.1) (m' := failV (fails.take (k + 1)) true) sg5.left (ps.length + 3) mapFa (keyI .i64) (g4 ps _ 3) (fun a' => by rw [htk]; exact failV_put _ _ _ hw hlk a') fun G7 sg7 => ?_
              rw [s4] at sg7
              (conv => whnf); rw [w64 (x := (k : Int) + 1) (by omega) (by omega)]
              refine ⟨rfl, k + 1, rfl, ⟨by omega, ?_⟩, by omega⟩
              unfold sysL newM at sg7 ⊢
              rw [hother]
              exact sg7
          | false =>
            (conv => whnf); try (refine VSeq.run ?_)
            have hother : failV (fails.take (k + 1)) true = failV (fails.take k) true := by rw [htk]; exact failV_snoc _ _ _ (.inl (by rw [hw]; decide))
            (conv => whnf); refine VC.fa fl68_1 ?_
            (conv => whnf); refine ld1 (v := .int .i64 f.2.1) ct3 (by rw [hb2.cell]; rfl) trivial ?_
            (conv => whnf); refine mlookOk (a := f.2.1) mapFa (keyI .i64) hmr trivial ?_
            rw [hit_get, hit_some]
            (conv => whnf); refine valloc (breakV (false, 0, 0)) (breakL (false, 0, 0)) rfl rfl ?_
            intro q3 G3 hq3 hs3 hb3 ha3
            have sg3 := sg2.box hq3 hs3 hb3 ha3
            (conv => whnf); refine stNB2 (cs := breakL (hitM (fails.take k) false f.2.1)) sg3 (ps ++ sysL s fm rm wm (newM files (fails.take k)) ++ [pB 68 q1 (breakL f)]).length rfl (getR _ _ _) (by simp [breakL]) (by simp [breakL]; exact ⟨rfl, rfl, rfl⟩) fun G4 sg4 ga4 gs4 => ?_
            rw [setR_] at sg4
            have sg5 := sg4.left
            have hb5 : Blk G4 q1 68 (breakL f) := sg5.blk _ (getR _ _ _)
            cases hlk : (lookB (fails.take k) false f.2.1).isSome with
            | true =>
              have hsame : failV (fails.take (k + 1)) false = failV (fails.take k) false := by rw [htk]; exact failV_snoc _ _ _ (.inr hlk)
              (conv => whnf); rw [w64 (x := (k : Int) + 1) (by omega) (by omega)]
              refine ⟨rfl, k + 1, rfl, ⟨by omega, ?_⟩, by omega⟩
              have sg6 := sg5.left
              unfold sysL newM at sg6 ⊢
              rw [hother, hsame]
              exact sg6
            | false =>
              (conv => whnf); refine VC.fa fl68_1 ?_
              (conv => whnf); refine ld1 (v := .int .i64 f.2.1) ct3 (by rw [hb5.cell]; rfl) trivial ?_
              (conv => whnf); refine ldN (cs := breakL f) ag68 (hb5.cells (fun j v hv => by rw [Nat.zero_add]; exact hv)) trivial ?_
              (conv => whnf); refine mputP (a := f.2.1) (m' := failV (fails.take (k + 1)) false) sg5.left (ps.length + 2) mapFa (keyI .i64) (g4 ps _ 2) (fun a' => by rw [htk]; exact failV_put _ _ _ hw hlk a') fun G7 sg7 => ?_
              rw [s4] at sg7
              (conv => whnf); rw [w64 (x := (k : Int) + 1) (by omega) (by omega)]
              refine ⟨rfl, k + 1, rfl, ⟨by omega, ?_⟩, by omega⟩
              unfold sysL newM at sg7 ⊢
              rw [hother]
              exact sg7
        · obtain rfl : k = fails.length := by omega
          rw [List.take_length] at stg
          (conv => whnf)
          exact ⟨s, fm, rm, wm, rfl, stg⟩
end Go.Proofs.YtfdlhakfmbdamaaDoor
