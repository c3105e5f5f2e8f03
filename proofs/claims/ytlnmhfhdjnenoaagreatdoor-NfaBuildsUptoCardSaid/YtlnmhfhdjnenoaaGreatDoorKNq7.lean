/- Parts of the proof: PDp11, PBlE, PLrg, PBuE, PNBu, PPow4, VOpen, POpenS, VTop, PNetIn -/
import Derived.Test.YtlnmhfhdjnenoaaGreatDoorKNq6
import Derived.Test.YtlnmhfhdjnenoaaGreatDoorKNq5
import Derived.Test.YtlnmhfhdjnenoaaGreatDoorKNq4
import Derived.Test.YtlnmhfhdjnenoaaGreatDoorRows
import Derived.Test.YtlnmhfhdjnenoaaGreatDoorKNq2
import Derived.OpenShut
import Derived.ChangeSame
import Derived.Deep.DeepHandedRow
import Derived.ProofKit
import Derived.Test.YtlnmhfhdjnenoaaGreatDoorKNq1
import Derived.JoinedCond
import Derived.WideKeyArgs
/- The document's Parse: the walk. -/
set_option linter.unusedVariables false
set_option linter.unusedSimpArgs false
set_option maxRecDepth 100000
namespace Go.Proofs.YtlnmhfhdjnenoaaGreatDoor
open Go.VC Go.Lib
section
variable {op a b m n m' n' : Value} {bits : List Value}
theorem rs_m (h : bits.length = 256) : splice (rnCells op bits a b m n) 259 [m'] = rnCells op bits a b m' n := by
  unfold splice rnCells
  have e1 : ([op] ++ (bits ++ [a, b, m, n])).take 259 = [op] ++ (bits ++ [a, b]) := by
    rw [show ([op] ++ (bits ++ [a, b, m, n])).take (258 + 1) = op :: (bits ++ [a, b, m, n]).take 258 from rfl, show (258 : Nat) = bits.length + 2 by omega, List.take_length_add_append]; rfl
  have e2 : ([op] ++ (bits ++ [a, b, m, n])).drop (259 + 1) = [n] := by
    rw [show ([op] ++ (bits ++ [a, b, m, n])).drop (259 + 1) = (bits ++ [a, b, m, n]).drop 259 from rfl, show (259 : Nat) = bits.length + 3 by omega, List.drop_length_add_append]; rfl
  rw [e1, show 259 + [m'].length = 259 + 1 from rfl, e2]
  simp
theorem rs_n (h : bits.length = 256) : splice (rnCells op bits a b m n) 260 [n'] = rnCells op bits a b m n' := by
  unfold splice rnCells
  have e1 : ([op] ++ (bits ++ [a, b, m, n])).take 260 = [op] ++ (bits ++ [a, b, m]) := by
    rw [show ([op] ++ (bits ++ [a, b, m, n])).take (259 + 1) = op :: (bits ++ [a, b, m, n]).take 259 from rfl, show (259 : Nat) = bits.length + 3 by omega, List.take_length_add_append]; rfl
  have e2 : ([op] ++ (bits ++ [a, b, m, n])).drop (260 + 1) = [] := by
    rw [show ([op] ++ (bits ++ [a, b, m, n])).drop (260 + 1) = (bits ++ [a, b, m, n]).drop 260 from rfl, show (260 : Nat) = bits.length + 4 by omega, List.drop_length_add_append]; rfl
  rw [e1, show 260 + [n'].length = 260 + 1 from rfl, e2]
  simp
end
theorem rn_build4 (x y m n : Int) {S : Nat → Prop} {H : Heap} {K : Value → Prop} (k : K (.agg (rnL ⟨x, 0#256, y, 0, m, n⟩).toArray)) :
    VDet Tryz.prog (Instr.build 94 [(0, .int .i64 x), (2, .int .i64 y), (4, .int .i64 m), (5, .int .i64 n)].toArray) S H K := by
  refine vbuildS Tryz.underlying94 rfl (.agg rnZ.toArray) rn_z (rnL ⟨x, 0#256, y, 0, m, n⟩) ?_ k
  have hr : (List.replicate 256 (Value.bool false)).length = 256 := List.length_replicate
  refine (fill_cons (i := 0) (off := 0) (size := 1) (by kernel_rfl) rfl (by show _ ≤ rnZ.toArray.size; rw [List.size_toArray, rnZ_len]; decide)).trans ?_
  have e0 : splice (Value.agg rnZ.toArray).cells.toList 0 (Value.int .i64 x).cells.toList = rnCells (.int .i64 x) (List.replicate 256 (.bool false)) (.int .i64 0) (.int .i64 0) (.int .i64 0) (.int .i64 0) := rs_op
  rw [e0]
  refine (fill_cons (i := 2) (off := 257) (size := 1) (by kernel_rfl) rfl (by rw [List.size_toArray, rnCells_len hr]; decide)).trans ?_
  rw [List.toList_toArray, show (Value.int IntKind.i64 y).cells.toList = [Value.int .i64 y] from rfl, rs_l hr]
  refine (fill_cons (i := 4) (off := 259) (size := 1) (by kernel_rfl) rfl (by rw [List.size_toArray, rnCells_len hr]; decide)).trans ?_
  rw [List.toList_toArray, show (Value.int IntKind.i64 m).cells.toList = [Value.int .i64 m] from rfl, rs_m hr]
  refine (fill_cons (i := 5) (off := 260) (size := 1) (by kernel_rfl) rfl (by rw [List.size_toArray, rnCells_len hr]; decide)).trans ?_
  rw [List.toList_toArray, show (Value.int IntKind.i64 n).cells.toList = [Value.int .i64 n] from rfl, rs_n hr]
  unfold rnL
  rw [show (RnM.mk x 0#256 y 0 m n).set = 0#256 from rfl, bitsL_zero]
  rfl
theorem state_z : (Tryz.prog.info? 83).bind (·.zero) = some (.agg #[.slice none 0 0, .slice none 0 0]) := by kernel_rfl
/-! ### the stack of frames -/
inductive StkR (ws : List RwM) : List FrD → List AF → Prop
  | nil : StkR ws [] []
  | cons {fr : List FrD} {fs : List AF} {g : FrD} {a : AF} : StkR ws fr fs → FrR ws g a → StkR ws (fr ++ [g]) (a :: fs)
theorem StkR.more {ws us : List RwM} {fr : List FrD} {fs : List AF} (h : StkR ws fr fs) : StkR (ws ++ us) fr fs := by
  induction h with
  | nil => exact .nil
  | cons _ g ih => exact .cons ih g.more
theorem StkR.len {ws : List RwM} {fr : List FrD} {fs : List AF} (h : StkR ws fr fs) : fr.length = fs.length := by
  induction h with
  | nil => rfl
  | cons _ g ih => simp [ih]
theorem IxR.num {ws : List RwM} {x : Int} {o : Option ReM} (h : IxR ws x o) (hl : ws.length ≤ 16777216) : NumOk x := by
  cases o with
  | none => rw [show x = -1 from h]; exact num_m1
  | some r =>
    obtain ⟨j, w, rfl, h2, -⟩ := h
    have := (List.getElem?_eq_some_iff.1 h2).1
    exact num_len (by omega)
theorem FrR.nums {ws : List RwM} {f : FrD} {a : AF} (h : FrR ws f a) (hl : ws.length ≤ 16777216) : FrN f := ⟨h.alt.num hl, h.meet.num hl, h.row.num hl, h.factor.num hl⟩
theorem bracesM_code {t : ByteArray} {i c p : Nat} (h : bracesM t i = .inl (c, p)) : c ≠ 0 := by
  unfold bracesM at h
  split at h
  · split at h
    · rename_i e hu
      cases h
      unfold upM at hu
      split at hu
      · split at hu
        · cases hu
        · split at hu
          · cases hu
          · cases hu; decide
      · cases hu
    · unfold endM at h
      split at h
      · split at h
        · cases h; decide
        · cases h
      · cases h; decide
  · cases h; decide
/-- What Parse of the document answers. -/
def PdAns (t : ByteArray) (H : Heap) (v : Value) (H' : Heap) : Prop := match parseM t with
  | .inl (c, p) => v = .tuple #[.agg reZ.toArray, .int .i64 (c : Int), .int .i64 p]
  | .inr r => ∃ ns na nc root, v = .tuple #[.agg (reL (.slice na ns.length nc) ((root : Nat) : Int)).toArray, .int .i64 0, .int .i64 0] ∧ TreeAt ns r root ∧ ns.length = r.nodes ∧ SlO tRn none_ H' H.size 94 (.slice na ns.length nc) ns
structure DocI (H : Heap) (t : ByteArray) (q2 sb i : Nat) (G : Heap) : Prop where
  ex : ∃ (f : AF) (fs : List AF) (ds : List RnM) (ws : List RwM) (fr : List FrD) (fD : FrD) (na : Option Addr) (nc fb fc n : Nat), prun t ⟨0, openF (-1), []⟩ = prun t ⟨i, f, fs⟩ ∧ i ≤ t.size ∧ Raw ds ws ∧ FrR ws fD f ∧ StkR ws fr fs ∧ ds.length ≤ 4 * i ∧ fs.length ≤ 1000 ∧
    StB (Old H) H G (stP sb fb na nc fc n ds (fr ++ [fD]) [pB tRe q2 reZ])
theorem open_r (ws : List RwM) (p : Int) : FrR ws ⟨p, -1, -1, 0, -1, -1⟩ (openF p) := ⟨rfl, rfl, rfl, rfl, rfl, rfl⟩
theorem ld_reZ {H : Heap} {b : Nat} (h : Blk H b tRe reZ) : Cells H b 0 reZ := h.cells (fun j v hv => by rw [Nat.zero_add]; exact hv)
theorem postB_cases {c : Nat} (h : postB c = true) : c = 42 ∨ c = 43 ∨ c = 63 ∨ c = 123 := by
  apply Classical.byContradiction
  intro hn
  rw [postB_no (by omega) (by omega) (by omega) (by omega)] at h
  cases h
set_option maxHeartbeats 64000000 in
theorem dparse_c (t : ByteArray) (H : Heap) : FnOk Tryz.prog 8 #[.string t] H fun v H' => Agr (Old H) H H' ∧ PdAns t H v H' := by
  refine FnOk.of_vcL Tryz.func8 rfl (Tryz.call8 _) ?_
  (conv => whnf); refine valloc _ reZ re_z rfl ?_
  intro q2 H1 hq1 hs1 hb1 ha1
  have st1 := (St.nil H).box hq1 hs1 hb1 ha1
  by_cases hbig : 1048576 < t.size
  · have d1 : decide (1048576 < (t.size : Int)) = true := decide_eq_true (by omega)
    have hpM : parseM t = .inl (1, 0) := by unfold parseM; rw [if_pos hbig]
    (conv => whnf); rw [d1]
    (conv => whnf); refine vbuildS Tryz.underlying32 rfl _ re_z reZ rfl ?_
    (conv => whnf); refine stNB (cs := reZ) st1 0 rfl rfl (Nat.le_refl _) rfl fun Gz sz => ?_
    have ez : splice reZ 0 reZ = reZ := splAll rfl
    rw [ez] at sz
    (conv => whnf); refine ldN (cs := reZ) ag32 (ld_reZ (sz.blk 0 rfl)) trivial ?_
    refine ⟨sz.old, ?_⟩
    unfold PdAns
    rw [hpM]
    rfl
  have d1 : decide (1048576 < (t.size : Int)) = false := decide_eq_false (by omega)
  have hpM : parseM t = prun t ⟨0, openF (-1), []⟩ := by unfold parseM; rw [if_neg hbig]
  (conv => whnf); rw [d1]
  (conv => whnf); refine vbuildS Tryz.underlying83 rfl (.agg #[.slice none 0 0, .slice none 0 0]) state_z [.slice none 0 0, .slice none 0 0] rfl ?_
  (conv => whnf); refine vbox [.slice none 0 0, .slice none 0 0] rfl ?_
  intro sb H2 hq2 hs2 hb2 ha2
  have st2 : StB (Old H) H H2 [pB tSt sb [.slice none 0 0, .slice none 0 0], pS tRn 94 none 0 0 [], pS tFr 85 none 0 0 [], pB tRe q2 reZ] := (((st1.box hq2 hs2 hb2 ha2).nils tRn 94).nils tFr 85).pick [1, 2, 3, 0] (by decide)
  (conv => whnf); refine VDraw.heldZ (fun k => k = sb) [10] (sq [0,1,2,3,4] (.f 5 (.f 6 (.f 7 (sq [8,9] (.f 10 .e)))))) rfl (by kernel_rfl) ?_
  (conv => whnf); refine VC.fa fl83_1 ?_
  (conv => whnf); refine ld1 (v := .slice none 0 0) ct81 (by rw [(st2.blk 0 rfl).cell]; rfl) rfl ?_
  (conv => whnf); refine VCall.mk (open_c (-1) H2) ?_
  rintro _ H3 ⟨rfl, ha3⟩
  have st3 := st2.call ha3
  refine ⟨fun k hk => by rw [show k = sb from hk]; exact (st3.blk 0 rfl).trans (st2.blk 0 rfl).symm, ?_⟩
  (conv => whnf); refine vbuild1 sl81 (frO (-1)) rfl rfl (by decide) (by decide) ?_
  intro z H4 hz hs4 hb4 ha4
  have st4 := st3.skip hz ha4
  refine ⟨fun k hk => by rw [show k = sb from hk]; exact (st4.blk 0 rfl).trans (st2.blk 0 rfl).symm, ?_⟩
  (conv => whnf); refine appO (ys := [(⟨-1, -1, -1, 0, -1, -1⟩ : FrD)]) (ds := frO (-1)) st4 2 sl81 rfl (hb4.cells (o := 0) (cs := frO (-1)) fun j v hv => by rw [Nat.zero_add]; exact hv) (Ty.reps_one (T := tFr) rfl) rfl (fun u hu => List.all_eq_true.1 (fr_ones ⟨-1, -1, -1, 0, -1, -1⟩) u hu) (by decide) (by decide) fun a5 fc5 H5 st5 ha5 => ?_
  refine ⟨fun k hk => by rw [show k = sb from hk]; exact (st5.blk 0 rfl).trans (st2.blk 0 rfl).symm, ?_⟩
  obtain ⟨fb5, rfl⟩ := st5.adr 2 rfl (by decide)
  (conv => whnf); refine VC.fa fl83_1 ?_
  (conv => whnf); refine st1B st5 0 ct81 rfl (by show _ < (2 : Nat); decide) rfl fun H6 st6 => ?_
  replace st6 : StB (Old H) H H6 (stP sb fb5 none 0 fc5 1 [] ([] ++ [(⟨-1, -1, -1, 0, -1, -1⟩ : FrD)]) [pB tRe q2 reZ]) := st6
  clear st1 st2 st3 st4 st5
  (conv => whnf)
  refine VLoop.mk [6] (fun i : Nat => [.int .i64 (i : Int)]) (fun i G => DocI H t q2 sb i G) (fun i _ => t.size - i) ?_ ?_
  · (conv => whnf)
    exact ⟨0, rfl, ⟨openF (-1), [], [], [], [], _, none, 0, fb5, fc5, 1, rfl, Nat.zero_le _, .nil, open_r [] (-1), .nil, Nat.zero_le _, Nat.zero_le _, st6⟩⟩
  · rintro i G junk ⟨f, fs, ds, ws, fr, fD, na, nc, fb, fc, n, hpr, hi, hR, hF, hK, hld, hlf, sg⟩
    clear st6 d1
    have hrun : prun t ⟨0, openF (-1), []⟩ = prun t ⟨i, f, fs⟩ := hpr
    have hlen := fr_lt sg
    have hkl := hK.len
    have hws := hR.len
    have hN := hF.nums (by omega)
    (conv => whnf); refine VIte.mk (fun hz => ?_) (fun hz => ?_) <;> simp only [decide_eq_true_eq, decide_eq_false_iff_not] at hz
    · have hit : i < t.size := by omega
      (conv => whnf); try (refine VSeq.run ?_)
      (conv => whnf); refine vbt hit ?_
      (conv => whnf); refine VDraw.lex rfl (by kernel_rfl) ?_
      (conv => whnf); refine VC.fa fl83_1 ?_
      (conv => whnf); refine ld1 (v := .slice (some ⟨fb, 0, none⟩) n fc) ct81 (by rw [(sg.blk 0 rfl).cell]; rfl) trivial ?_
      (conv => whnf); refine VC.fa fl83_1 ?_
      (conv => whnf); refine ld1 (v := .slice (some ⟨fb, 0, none⟩) n fc) ct81 (by rw [(sg.blk 0 rfl).cell]; rfl) trivial ?_
      (conv => whnf); rw [w64 (x := (n : Int) - 1) (by omega) (by omega)]
      (conv => whnf); refine ixE (j := fr.length) sl81 sg 2 rfl (by simp) (by omega) ?_
      have ER : ∀ {e : Nat × Nat}, pstep t ⟨i, f, fs⟩ = .inl e → prun t ⟨0, openF (-1), []⟩ = .inl (liftE e) := fun h => hrun.trans (prun_err hit h)
      have GO : ∀ {s : RdS}, pstep t ⟨i, f, fs⟩ = .inr s → prun t ⟨0, openF (-1), []⟩ = prun t s := fun h => hrun.trans (prun_step hit h)
      (conv => whnf); refine pures (postfix_p (bt t i) G) fun G1 hg1 => ?_
      replace sg := sg.call hg1
      by_cases hpost : postB (bt t i) = true
      · rw [hpost]
        (conv => whnf); refine VC.fa fl85_5 ?_
        (conv => whnf); refine ld1 (v := .int .i64 fD.factor) ct3 (fr_cell sg (k := 5) rfl) trivial ?_
        cases hfac : f.factor with
        | none =>
          have hx := hF.factor
          rw [hfac] at hx
          have d2 : decide (fD.factor < 0) = true := decide_eq_true (by rw [show fD.factor = -1 from hx]; decide)
          (conv => whnf); rw [d2]
          (conv => whnf); refine vbuildS Tryz.underlying32 rfl _ re_z reZ rfl ?_
          (conv => whnf); refine stNB (cs := reZ) sg 3 rfl rfl (Nat.le_refl _) rfl fun Gz sz => ?_
          have ez : splice reZ 0 reZ = reZ := splAll rfl
          rw [ez] at sz
          (conv => whnf); refine ldN (cs := reZ) ag32 (ld_reZ (sz.blk 3 rfl)) trivial ?_
          refine ⟨sz.old, ?_⟩
          unfold PdAns
          rw [hpM, ER (pstep_post0 hpost hfac)]
          rfl
        | some a =>
          have hx := hF.factor
          rw [hfac] at hx
          obtain ⟨jx, wx, ex1, ex2, ex3⟩ := hx
          have d2 : decide (fD.factor < 0) = false := decide_eq_false (by omega)
          (conv => whnf); rw [d2]
          (conv => whnf); rw [w64 (x := (i : Int) + 1) (by omega) (by omega)]
          rcases postB_cases hpost with hc | hc | hc | hc
          · rw [hc]
            (conv => whnf); try (refine VSeq.run ?_)
            (conv => whnf); try (refine VSeq.run ?_)
            (conv => whnf); try (refine VSeq.run ?_)
            have f1 : fb ≠ sb := fun e => sg.apart2 (i := 0) (j := 2) rfl rfl (by decide) sb rfl (.inl ⟨0, n, fc, by rw [e]⟩)
            have f2 : ¬ slB (.slice na ds.length nc) fb := fun e => sg.apart2 (i := 1) (j := 2) rfl rfl (by decide) fb (.inl e) (.inl ⟨0, n, fc, rfl⟩)
            have f3 := sg.ltE 2 rfl
            (conv => whnf); refine VDraw.heldZ (fun k => k = sb ∨ k = fb) [16] (sq [0,1,2,3,4,5,6,7,8,9,10,11] (.f 12 (.f 13 (sq [14,15] (.f 16 .e))))) rfl (by kernel_rfl) ?_
            (conv => whnf); refine VC.fa fl83_0 ?_
            (conv => whnf); refine ld1 (v := .slice na ds.length nc) ct30 (by rw [(sg.blk 0 rfl).cell]; rfl) (.inl rfl) ?_
            (conv => whnf); refine VC.fa fl85_5 ?_
            (conv => whnf); refine ld1 (v := .int .i64 fD.factor) ct3 (fr_cell sg (k := 5) rfl) (.inr rfl) ?_
            (conv => whnf); refine rn_build4 7 fD.factor (0) (-1) ?_
            (conv => whnf); refine vbuild1 sl30 (rnL (repN fD.factor (0) (-1))) rfl (rnL_len _) (by decide) (by decide) ?_
            intro zz G4 hz hs4 hb4 ha4
            have sg4 := sg.skip hz ha4
            have az : Agr (fun k => k = fb) _ G4 := fun k hk => ha4 k (by have e1 : k = fb := hk; have : zz = _ := hz; omega)
            refine ⟨fun k hk => by
              rcases hk with hk | hk
              · rw [show k = sb from hk]; exact (sg4.blk 0 rfl).trans (sg.blk 0 rfl).symm
              · exact az k hk, ?_⟩
            (conv => whnf); refine appG (ys := [repN fD.factor (0) (-1)]) sg4 1 sl30 rfl (hb4.cells (o := 0) (cs := rnL (repN fD.factor (0) (-1))) fun j v hv => by rw [Nat.zero_add]; exact hv) (Ty.reps_one ⟨rfl, num_in (x := 7) (by unfold NumOk; omega), num_in hN.factor, num_in (x := 0) (by unfold NumOk; omega), num_in (x := 0) (by unfold NumOk; omega), num_in (x := -1) (by unfold NumOk; omega)⟩) rfl (fun u hu => List.all_eq_true.1 (rn_ones _) u hu) (by simp [maxLen]; omega) (by simp; omega) fun a5 c5 G5 sg5 ha5 => ?_
            have el : ds.length + [repN fD.factor (0) (-1)].length = (ds ++ [repN fD.factor (0) (-1)]).length := by simp
            rw [el] at sg5 ⊢
            refine ⟨fun k hk => by
              rcases hk with hk | hk
              · rw [show k = sb from hk]; exact (sg5.blk 0 rfl).trans (sg.blk 0 rfl).symm
              · exact (ha5 k (by rw [show k = fb from hk]; exact ⟨sg4.ltE 2 rfl, f2⟩)).trans (az k hk), ?_⟩
            (conv => whnf); refine VC.fa fl83_0 ?_
            (conv => whnf); refine st1B sg5 0 ct30 rfl (by show _ < (2 : Nat); decide) rfl fun G6 sg6 => ?_
            replace sg6 : StB (Old H) H G6 (stP sb fb a5 c5 fc n (ds ++ [repN fD.factor (0) (-1)]) (fr ++ [fD]) [pB tRe q2 reZ]) := sg6
            (conv => whnf); refine VC.fa fl83_0 ?_
            (conv => whnf); refine ld1 (v := .slice a5 (ds ++ [repN fD.factor (0) (-1)]).length c5) ct30 (by rw [(sg6.blk 0 rfl).cell]; rfl) trivial ?_
            have w1 : IntKind.wrap .i64 (((ds ++ [repN fD.factor (0) (-1)]).length : Int) - 1) = (ds.length : Int) := by
              rw [List.length_append, List.length_singleton, w64 (by omega) (by omega)]; omega
            (conv => whnf); rw [w1]
            (conv => whnf); refine VC.fa fl85_5 ?_
            (conv => whnf); refine st1F (k := 5) (f' := { fD with factor := (ds.length : Int) }) sg6 ct3 (by decide) rfl rfl fun G7 sg7 ja => ?_
            (conv => whnf)
            refine ⟨rfl, i + 1, rfl, ⟨_, fs, ds ++ [repN fD.factor (0) (-1)], ws ++ [.rep wx (0) (-1)], fr, { fD with factor := (ds.length : Int) }, _, _, _, _, n, GO (pstep_post hfac hpost (by unfold postM; rw [if_pos hc])), by omega, hR.add (w := .rep wx (0) (-1)) ⟨jx, by rw [ex1], ex2, .inr (by omega)⟩, ⟨hF.place, hF.alt.more, hF.meet.more, hF.sign, hF.row.more, IxR.new hR (by show repR wx.den (lowM (0)) (-1) = _; rw [ex3, show lowM 0 = 0 from rfl])⟩, hK.more, by simp only [List.length_append, List.length_singleton]; omega, hlf, sg7⟩, by omega⟩
          · rw [hc]
            (conv => whnf); try (refine VSeq.run ?_)
            (conv => whnf); try (refine VSeq.run ?_)
            (conv => whnf); try (refine VSeq.run ?_)
            have f1 : fb ≠ sb := fun e => sg.apart2 (i := 0) (j := 2) rfl rfl (by decide) sb rfl (.inl ⟨0, n, fc, by rw [e]⟩)
            have f2 : ¬ slB (.slice na ds.length nc) fb := fun e => sg.apart2 (i := 1) (j := 2) rfl rfl (by decide) fb (.inl e) (.inl ⟨0, n, fc, rfl⟩)
            have f3 := sg.ltE 2 rfl
            (conv => whnf); refine VDraw.heldZ (fun k => k = sb ∨ k = fb) [16] (sq [0,1,2,3,4,5,6,7,8,9,10,11] (.f 12 (.f 13 (sq [14,15] (.f 16 .e))))) rfl (by kernel_rfl) ?_
            (conv => whnf); refine VC.fa fl83_0 ?_
            (conv => whnf); refine ld1 (v := .slice na ds.length nc) ct30 (by rw [(sg.blk 0 rfl).cell]; rfl) (.inl rfl) ?_
            (conv => whnf); refine VC.fa fl85_5 ?_
            (conv => whnf); refine ld1 (v := .int .i64 fD.factor) ct3 (fr_cell sg (k := 5) rfl) (.inr rfl) ?_
            (conv => whnf); refine rn_build4 7 fD.factor (-2) (-1) ?_
            (conv => whnf); refine vbuild1 sl30 (rnL (repN fD.factor (-2) (-1))) rfl (rnL_len _) (by decide) (by decide) ?_
            intro zz G4 hz hs4 hb4 ha4
            have sg4 := sg.skip hz ha4
            have az : Agr (fun k => k = fb) _ G4 := fun k hk => ha4 k (by have e1 : k = fb := hk; have : zz = _ := hz; omega)
            refine ⟨fun k hk => by
              rcases hk with hk | hk
              · rw [show k = sb from hk]; exact (sg4.blk 0 rfl).trans (sg.blk 0 rfl).symm
              · exact az k hk, ?_⟩
            (conv => whnf); refine appG (ys := [repN fD.factor (-2) (-1)]) sg4 1 sl30 rfl (hb4.cells (o := 0) (cs := rnL (repN fD.factor (-2) (-1))) fun j v hv => by rw [Nat.zero_add]; exact hv) (Ty.reps_one ⟨rfl, num_in (x := 7) (by unfold NumOk; omega), num_in hN.factor, num_in (x := 0) (by unfold NumOk; omega), num_in (x := -2) (by unfold NumOk; omega), num_in (x := -1) (by unfold NumOk; omega)⟩) rfl (fun u hu => List.all_eq_true.1 (rn_ones _) u hu) (by simp [maxLen]; omega) (by simp; omega) fun a5 c5 G5 sg5 ha5 => ?_
            have el : ds.length + [repN fD.factor (-2) (-1)].length = (ds ++ [repN fD.factor (-2) (-1)]).length := by simp
            rw [el] at sg5 ⊢
            refine ⟨fun k hk => by
              rcases hk with hk | hk
              · rw [show k = sb from hk]; exact (sg5.blk 0 rfl).trans (sg.blk 0 rfl).symm
              · exact (ha5 k (by rw [show k = fb from hk]; exact ⟨sg4.ltE 2 rfl, f2⟩)).trans (az k hk), ?_⟩
            (conv => whnf); refine VC.fa fl83_0 ?_
            (conv => whnf); refine st1B sg5 0 ct30 rfl (by show _ < (2 : Nat); decide) rfl fun G6 sg6 => ?_
            replace sg6 : StB (Old H) H G6 (stP sb fb a5 c5 fc n (ds ++ [repN fD.factor (-2) (-1)]) (fr ++ [fD]) [pB tRe q2 reZ]) := sg6
            (conv => whnf); refine VC.fa fl83_0 ?_
            (conv => whnf); refine ld1 (v := .slice a5 (ds ++ [repN fD.factor (-2) (-1)]).length c5) ct30 (by rw [(sg6.blk 0 rfl).cell]; rfl) trivial ?_
            have w1 : IntKind.wrap .i64 (((ds ++ [repN fD.factor (-2) (-1)]).length : Int) - 1) = (ds.length : Int) := by
              rw [List.length_append, List.length_singleton, w64 (by omega) (by omega)]; omega
            (conv => whnf); rw [w1]
            (conv => whnf); refine VC.fa fl85_5 ?_
            (conv => whnf); refine st1F (k := 5) (f' := { fD with factor := (ds.length : Int) }) sg6 ct3 (by decide) rfl rfl fun G7 sg7 ja => ?_
            (conv => whnf)
            refine ⟨rfl, i + 1, rfl, ⟨_, fs, ds ++ [repN fD.factor (-2) (-1)], ws ++ [.rep wx (-2) (-1)], fr, { fD with factor := (ds.length : Int) }, _, _, _, _, n, GO (pstep_post hfac hpost (by unfold postM; rw [if_neg (by omega), if_pos hc])), by omega, hR.add (w := .rep wx (-2) (-1)) ⟨jx, by rw [ex1], ex2, .inl ⟨rfl, rfl⟩⟩, ⟨hF.place, hF.alt.more, hF.meet.more, hF.sign, hF.row.more, IxR.new hR (by show repR wx.den (lowM (-2)) (-1) = _; rw [ex3, show lowM (-2) = 1 from rfl])⟩, hK.more, by simp only [List.length_append, List.length_singleton]; omega, hlf, sg7⟩, by omega⟩
          · rw [hc]
            (conv => whnf); try (refine VSeq.run ?_)
            (conv => whnf); try (refine VSeq.run ?_)
            (conv => whnf); try (refine VSeq.run ?_)
            have f1 : fb ≠ sb := fun e => sg.apart2 (i := 0) (j := 2) rfl rfl (by decide) sb rfl (.inl ⟨0, n, fc, by rw [e]⟩)
            have f2 : ¬ slB (.slice na ds.length nc) fb := fun e => sg.apart2 (i := 1) (j := 2) rfl rfl (by decide) fb (.inl e) (.inl ⟨0, n, fc, rfl⟩)
            have f3 := sg.ltE 2 rfl
            (conv => whnf); refine VDraw.heldZ (fun k => k = sb ∨ k = fb) [16] (sq [0,1,2,3,4,5,6,7,8,9,10,11] (.f 12 (.f 13 (sq [14,15] (.f 16 .e))))) rfl (by kernel_rfl) ?_
            (conv => whnf); refine VC.fa fl83_0 ?_
            (conv => whnf); refine ld1 (v := .slice na ds.length nc) ct30 (by rw [(sg.blk 0 rfl).cell]; rfl) (.inl rfl) ?_
            (conv => whnf); refine VC.fa fl85_5 ?_
            (conv => whnf); refine ld1 (v := .int .i64 fD.factor) ct3 (fr_cell sg (k := 5) rfl) (.inr rfl) ?_
            (conv => whnf); refine rn_build4 7 fD.factor (0) (1) ?_
            (conv => whnf); refine vbuild1 sl30 (rnL (repN fD.factor (0) (1))) rfl (rnL_len _) (by decide) (by decide) ?_
            intro zz G4 hz hs4 hb4 ha4
            have sg4 := sg.skip hz ha4
            have az : Agr (fun k => k = fb) _ G4 := fun k hk => ha4 k (by have e1 : k = fb := hk; have : zz = _ := hz; omega)
            refine ⟨fun k hk => by
              rcases hk with hk | hk
              · rw [show k = sb from hk]; exact (sg4.blk 0 rfl).trans (sg.blk 0 rfl).symm
              · exact az k hk, ?_⟩
            (conv => whnf); refine appG (ys := [repN fD.factor (0) (1)]) sg4 1 sl30 rfl (hb4.cells (o := 0) (cs := rnL (repN fD.factor (0) (1))) fun j v hv => by rw [Nat.zero_add]; exact hv) (Ty.reps_one ⟨rfl, num_in (x := 7) (by unfold NumOk; omega), num_in hN.factor, num_in (x := 0) (by unfold NumOk; omega), num_in (x := 0) (by unfold NumOk; omega), num_in (x := 1) (by unfold NumOk; omega)⟩) rfl (fun u hu => List.all_eq_true.1 (rn_ones _) u hu) (by simp [maxLen]; omega) (by simp; omega) fun a5 c5 G5 sg5 ha5 => ?_
            have el : ds.length + [repN fD.factor (0) (1)].length = (ds ++ [repN fD.factor (0) (1)]).length := by simp
            rw [el] at sg5 ⊢
            refine ⟨fun k hk => by
              rcases hk with hk | hk
              · rw [show k = sb from hk]; exact (sg5.blk 0 rfl).trans (sg.blk 0 rfl).symm
              · exact (ha5 k (by rw [show k = fb from hk]; exact ⟨sg4.ltE 2 rfl, f2⟩)).trans (az k hk), ?_⟩
            (conv => whnf); refine VC.fa fl83_0 ?_
            (conv => whnf); refine st1B sg5 0 ct30 rfl (by show _ < (2 : Nat); decide) rfl fun G6 sg6 => ?_
            replace sg6 : StB (Old H) H G6 (stP sb fb a5 c5 fc n (ds ++ [repN fD.factor (0) (1)]) (fr ++ [fD]) [pB tRe q2 reZ]) := sg6
            (conv => whnf); refine VC.fa fl83_0 ?_
            (conv => whnf); refine ld1 (v := .slice a5 (ds ++ [repN fD.factor (0) (1)]).length c5) ct30 (by rw [(sg6.blk 0 rfl).cell]; rfl) trivial ?_
            have w1 : IntKind.wrap .i64 (((ds ++ [repN fD.factor (0) (1)]).length : Int) - 1) = (ds.length : Int) := by
              rw [List.length_append, List.length_singleton, w64 (by omega) (by omega)]; omega
            (conv => whnf); rw [w1]
            (conv => whnf); refine VC.fa fl85_5 ?_
            (conv => whnf); refine st1F (k := 5) (f' := { fD with factor := (ds.length : Int) }) sg6 ct3 (by decide) rfl rfl fun G7 sg7 ja => ?_
            (conv => whnf)
            refine ⟨rfl, i + 1, rfl, ⟨_, fs, ds ++ [repN fD.factor (0) (1)], ws ++ [.rep wx (0) (1)], fr, { fD with factor := (ds.length : Int) }, _, _, _, _, n, GO (pstep_post hfac hpost (by unfold postM; rw [if_neg (by omega), if_neg (by omega), if_pos hc])), by omega, hR.add (w := .rep wx (0) (1)) ⟨jx, by rw [ex1], ex2, .inr (by omega)⟩, ⟨hF.place, hF.alt.more, hF.meet.more, hF.sign, hF.row.more, IxR.new hR (by show repR wx.den (lowM (0)) (1) = _; rw [ex3, show lowM 0 = 0 from rfl])⟩, hK.more, by simp only [List.length_append, List.length_singleton]; omega, hlf, sg7⟩, by omega⟩
          · rw [hc]
            (conv => whnf); try (refine VSeq.run ?_)
            (conv => whnf); try (refine VSeq.run ?_)
            (conv => whnf); try (refine VSeq.run ?_)
            (conv => whnf); refine VCall.mk (dbraces_c (i := i) (by omega) hit) ?_
            rintro v G2 ⟨hag, hBr⟩
            replace sg := sg.call hag
            unfold BrD at hBr
            cases hbm : bracesM t i with
            | inl e =>
              obtain ⟨c, p⟩ := e
              rw [hbm] at hBr
              replace hBr : v = .tuple #[.int .i64 0, .int .i64 0, .int .i64 0, .int .i64 (c : Int), .int .i64 (p : Int)] := hBr
              subst hBr
              have hcz := bracesM_code hbm
              have d3 : ((c : Int) != 0) = true := bne_iff_ne.2 (by omega)
              (conv => whnf); rw [d3]
              (conv => whnf); refine vbuildS Tryz.underlying32 rfl _ re_z reZ rfl ?_
              (conv => whnf); refine stNB (cs := reZ) sg 3 rfl rfl (Nat.le_refl _) rfl fun Gz sz => ?_
              have ez : splice reZ 0 reZ = reZ := splAll rfl
              rw [ez] at sz
              (conv => whnf); refine ldN (cs := reZ) ag32 (ld_reZ (sz.blk 3 rfl)) trivial ?_
              refine ⟨sz.old, ?_⟩
              unfold PdAns
              rw [hpM, ER (pstep_postE hfac hpost (by unfold postM; rw [if_neg (by omega), if_neg (by omega), if_neg (by omega), hbm]))]
              rfl
            | inr y =>
              obtain ⟨m, nn, kk⟩ := y
              rw [hbm] at hBr
              replace hBr : v = .tuple #[.int .i64 (m : Int), .int .i64 nn, .int .i64 (kk : Int), .int .i64 0, .int .i64 0] := hBr
              subst hBr
              have hok := bracesM_ok hbm
              obtain ⟨o1, o2, o3, o4, o5, o6⟩ := hok
              have hlow : lowM (m : Int) = m := by unfold lowM; rw [if_neg (by omega), Int.toNat_natCast]
              (conv => whnf)
              have f1 : fb ≠ sb := fun e => sg.apart2 (i := 0) (j := 2) rfl rfl (by decide) sb rfl (.inl ⟨0, n, fc, by rw [e]⟩)
              have f2 : ¬ slB (.slice na ds.length nc) fb := fun e => sg.apart2 (i := 1) (j := 2) rfl rfl (by decide) fb (.inl e) (.inl ⟨0, n, fc, rfl⟩)
              have f3 := sg.ltE 2 rfl
              (conv => whnf); refine VDraw.heldZ (fun k => k = sb ∨ k = fb) [16] (sq [0,1,2,3,4,5,6,7,8,9,10,11] (.f 12 (.f 13 (sq [14,15] (.f 16 .e))))) rfl (by kernel_rfl) ?_
              (conv => whnf); refine VC.fa fl83_0 ?_
              (conv => whnf); refine ld1 (v := .slice na ds.length nc) ct30 (by rw [(sg.blk 0 rfl).cell]; rfl) (.inl rfl) ?_
              (conv => whnf); refine VC.fa fl85_5 ?_
              (conv => whnf); refine ld1 (v := .int .i64 fD.factor) ct3 (fr_cell sg (k := 5) rfl) (.inr rfl) ?_
              (conv => whnf); refine rn_build4 7 fD.factor ((m : Int)) (nn) ?_
              (conv => whnf); refine vbuild1 sl30 (rnL (repN fD.factor ((m : Int)) (nn))) rfl (rnL_len _) (by decide) (by decide) ?_
              intro zz G4 hz hs4 hb4 ha4
              have sg4 := sg.skip hz ha4
              have az : Agr (fun k => k = fb) _ G4 := fun k hk => ha4 k (by have e1 : k = fb := hk; have : zz = _ := hz; omega)
              refine ⟨fun k hk => by
                rcases hk with hk | hk
                · rw [show k = sb from hk]; exact (sg4.blk 0 rfl).trans (sg.blk 0 rfl).symm
                · exact az k hk, ?_⟩
              (conv => whnf); refine appG (ys := [repN fD.factor ((m : Int)) (nn)]) sg4 1 sl30 rfl (hb4.cells (o := 0) (cs := rnL (repN fD.factor ((m : Int)) (nn))) fun j v hv => by rw [Nat.zero_add]; exact hv) (Ty.reps_one ⟨rfl, num_in (x := 7) (by unfold NumOk; omega), num_in hN.factor, num_in (x := 0) (by unfold NumOk; omega), num_in (x := (m : Int)) (by unfold NumOk; omega), num_in (x := nn) (by unfold NumOk; omega)⟩) rfl (fun u hu => List.all_eq_true.1 (rn_ones _) u hu) (by simp [maxLen]; omega) (by simp; omega) fun a5 c5 G5 sg5 ha5 => ?_
              have el : ds.length + [repN fD.factor ((m : Int)) (nn)].length = (ds ++ [repN fD.factor ((m : Int)) (nn)]).length := by simp
              rw [el] at sg5 ⊢
              refine ⟨fun k hk => by
                rcases hk with hk | hk
                · rw [show k = sb from hk]; exact (sg5.blk 0 rfl).trans (sg.blk 0 rfl).symm
                · exact (ha5 k (by rw [show k = fb from hk]; exact ⟨sg4.ltE 2 rfl, f2⟩)).trans (az k hk), ?_⟩
              (conv => whnf); refine VC.fa fl83_0 ?_
              (conv => whnf); refine st1B sg5 0 ct30 rfl (by show _ < (2 : Nat); decide) rfl fun G6 sg6 => ?_
              replace sg6 : StB (Old H) H G6 (stP sb fb a5 c5 fc n (ds ++ [repN fD.factor ((m : Int)) (nn)]) (fr ++ [fD]) [pB tRe q2 reZ]) := sg6
              (conv => whnf); refine VC.fa fl83_0 ?_
              (conv => whnf); refine ld1 (v := .slice a5 (ds ++ [repN fD.factor ((m : Int)) (nn)]).length c5) ct30 (by rw [(sg6.blk 0 rfl).cell]; rfl) trivial ?_
              have w1 : IntKind.wrap .i64 (((ds ++ [repN fD.factor ((m : Int)) (nn)]).length : Int) - 1) = (ds.length : Int) := by
                rw [List.length_append, List.length_singleton, w64 (by omega) (by omega)]; omega
              (conv => whnf); rw [w1]
              (conv => whnf); refine VC.fa fl85_5 ?_
              (conv => whnf); refine st1F (k := 5) (f' := { fD with factor := (ds.length : Int) }) sg6 ct3 (by decide) rfl rfl fun G7 sg7 ja => ?_
              (conv => whnf)
              refine ⟨rfl, kk, rfl, ⟨_, fs, ds ++ [repN fD.factor ((m : Int)) (nn)], ws ++ [.rep wx ((m : Int)) (nn)], fr, { fD with factor := (ds.length : Int) }, _, _, _, _, n, GO (pstep_post hfac hpost (by unfold postM; rw [if_neg (by omega), if_neg (by omega), if_neg (by omega)]; exact hbm)), by omega, hR.add (w := .rep wx ((m : Int)) (nn)) ⟨jx, by rw [ex1], ex2, .inr ⟨by omega, by omega, by omega, by omega, o5⟩⟩, ⟨hF.place, hF.alt.more, hF.meet.more, hF.sign, hF.row.more, IxR.new hR (by show repR wx.den (lowM ((m : Int))) (nn) = _; rw [ex3, hlow])⟩, hK.more, by simp only [List.length_append, List.length_singleton]; omega, hlf, sg7⟩, by omega⟩
      · have hpost : postB (bt t i) = false := by simpa using hpost
        rw [hpost]
        by_cases h124 : bt t i = 124
        · have d : (((bt t i : Nat) : Int) == 124) = true := by rw [h124]; rfl
          (conv => whnf); rw [d]
          clear d
          (conv => whnf); refine VCall.mk (dclose_c sg hN (by omega)) ?_
          rintro v G2 ⟨na2, nc2, sg2⟩
          (conv => whnf); rw [w64 (x := (i : Int) + 1) (by omega) (by omega)]
          have hcl := closeD_len ds fD
          obtain ⟨us, k1, k2⟩ := close_goes hR hF
          exact ⟨rfl, i + 1, rfl, ⟨_, fs, _, _, fr, _, _, _, _, _, n, GO (pstep_bar h124), by omega, k1, k2, hK.more, by omega, hlf, sg2⟩, by omega⟩
        · have d : (((bt t i : Nat) : Int) == 124) = false := nofl h124
          (conv => whnf); rw [d]
          clear d
          by_cases h38 : bt t i = 38
          · have d : (((bt t i : Nat) : Int) == 38) = true := by rw [h38]; rfl
            (conv => whnf); rw [d]
            clear d
            (conv => whnf); refine VCall.mk (dfold_c sg hN (by omega)) ?_
            rintro v G2 ⟨na2, nc2, sg2⟩
            have hcl := foldD_len ds fD
            (conv => whnf); refine VDraw.heldZ (fun k => k = sb) [13] (sq [0,1,2,3,4,5,6,7,8,9,10,11,12] (.f 13 .e)) rfl (by kernel_rfl) ?_
            (conv => whnf); refine VC.fa fl83_1 ?_
            (conv => whnf); refine ld1 (v := .slice (some ⟨fb, 0, none⟩) n fc) ct81 (by rw [(sg2.blk 0 rfl).cell]; rfl) rfl ?_
            (conv => whnf); refine VC.fa fl83_1 ?_
            (conv => whnf); refine ld1 (v := .slice (some ⟨fb, 0, none⟩) n fc) ct81 (by rw [(sg2.blk 0 rfl).cell]; rfl) rfl ?_
            (conv => whnf); rw [w64 (x := (n : Int) - 1) (by omega) (by omega)]
            (conv => whnf); refine ixE (j := fr.length) sl81 sg2 2 rfl (by simp) (by omega) ?_
            (conv => whnf); refine VC.fa fl85_3 ?_
            (conv => whnf); refine st1F (k := 3) (f' := { (foldD ds fD).2 with sign := bt t i }) sg2 ct5 (by decide) rfl rfl fun G3 sg3 ja => ?_
            (conv => whnf); rw [w64 (x := (i : Int) + 1) (by omega) (by omega)]
            obtain ⟨us, k1, k2⟩ := fold_goes hR hF
            exact ⟨rfl, i + 1, rfl, ⟨_, fs, _, _, fr, { (foldD ds fD).2 with sign := bt t i }, _, _, _, _, n, GO (pstep_sign (.inl h38)), by omega, k1, ⟨k2.place, k2.alt, k2.meet, rfl, k2.row, k2.factor⟩, hK.more, by omega, hlf, sg3⟩, by omega⟩
          · have d : (((bt t i : Nat) : Int) == 38) = false := nofl h38
            (conv => whnf); rw [d]
            clear d
            by_cases h45 : bt t i = 45
            · have d : (((bt t i : Nat) : Int) == 45) = true := by rw [h45]; rfl
              (conv => whnf); rw [d]
              clear d
              (conv => whnf); refine VCall.mk (dfold_c sg hN (by omega)) ?_
              rintro v G2 ⟨na2, nc2, sg2⟩
              have hcl := foldD_len ds fD
              (conv => whnf); refine VDraw.heldZ (fun k => k = sb) [13] (sq [0,1,2,3,4,5,6,7,8,9,10,11,12] (.f 13 .e)) rfl (by kernel_rfl) ?_
              (conv => whnf); refine VC.fa fl83_1 ?_
              (conv => whnf); refine ld1 (v := .slice (some ⟨fb, 0, none⟩) n fc) ct81 (by rw [(sg2.blk 0 rfl).cell]; rfl) rfl ?_
              (conv => whnf); refine VC.fa fl83_1 ?_
              (conv => whnf); refine ld1 (v := .slice (some ⟨fb, 0, none⟩) n fc) ct81 (by rw [(sg2.blk 0 rfl).cell]; rfl) rfl ?_
              (conv => whnf); rw [w64 (x := (n : Int) - 1) (by omega) (by omega)]
              (conv => whnf); refine ixE (j := fr.length) sl81 sg2 2 rfl (by simp) (by omega) ?_
              (conv => whnf); refine VC.fa fl85_3 ?_
              (conv => whnf); refine st1F (k := 3) (f' := { (foldD ds fD).2 with sign := bt t i }) sg2 ct5 (by decide) rfl rfl fun G3 sg3 ja => ?_
              (conv => whnf); rw [w64 (x := (i : Int) + 1) (by omega) (by omega)]
              obtain ⟨us, k1, k2⟩ := fold_goes hR hF
              exact ⟨rfl, i + 1, rfl, ⟨_, fs, _, _, fr, { (foldD ds fD).2 with sign := bt t i }, _, _, _, _, n, GO (pstep_sign (.inr h45)), by omega, k1, ⟨k2.place, k2.alt, k2.meet, rfl, k2.row, k2.factor⟩, hK.more, by omega, hlf, sg3⟩, by omega⟩
            · have d : (((bt t i : Nat) : Int) == 45) = false := nofl h45
              (conv => whnf); rw [d]
              clear d
              by_cases h41 : bt t i = 41
              · have d : (((bt t i : Nat) : Int) == 41) = true := by rw [h41]; rfl
                (conv => whnf); rw [d]
                clear d
                (conv => whnf); refine VC.fa fl83_1 ?_
                (conv => whnf); refine ld1 (v := .slice (some ⟨fb, 0, none⟩) n fc) ct81 (by rw [(sg.blk 0 rfl).cell]; rfl) trivial ?_
                cases hK with
                | nil =>
                  have hn1 : n = 1 := by rw [hlen]; rfl
                  have d3 : ((n : Int) == 1) = true := by rw [hn1]; rfl
                  (conv => whnf); rw [d3]
                  (conv => whnf); refine vbuildS Tryz.underlying32 rfl _ re_z reZ rfl ?_
                  (conv => whnf); refine stNB (cs := reZ) sg 3 rfl rfl (Nat.le_refl _) rfl fun Gz sz => ?_
                  have ez : splice reZ 0 reZ = reZ := splAll rfl
                  rw [ez] at sz
                  (conv => whnf); refine ldN (cs := reZ) ag32 (ld_reZ (sz.blk 3 rfl)) trivial ?_
                  refine ⟨sz.old, ?_⟩
                  unfold PdAns
                  rw [hpM, ER (pstep_close0 h41)]
                  rfl
                | @cons fr1 fs1 g ga hK1 hG =>
                  have hn2 : n = fr1.length + 1 + 1 := by rw [hlen]; simp
                  have d3 : ((n : Int) == 1) = false := beq_eq_false_iff_ne.2 (by omega)
                  (conv => whnf); rw [d3]
                  (conv => whnf); refine VCall.mk (dclose_c sg hN (by omega)) ?_
                  rintro v G2 ⟨na2, nc2, sg2⟩
                  have hcl := closeD_len ds fD
                  (conv => whnf); refine VDraw.lex rfl (by kernel_rfl) ?_
                  (conv => whnf); refine VC.fa fl83_1 ?_
                  (conv => whnf); refine ld1 (v := .slice (some ⟨fb, 0, none⟩) n fc) ct81 (by rw [(sg2.blk 0 rfl).cell]; rfl) trivial ?_
                  (conv => whnf); refine VC.fa fl83_1 ?_
                  (conv => whnf); refine ld1 (v := .slice (some ⟨fb, 0, none⟩) n fc) ct81 (by rw [(sg2.blk 0 rfl).cell]; rfl) trivial ?_
                  (conv => whnf); rw [w64 (x := (n : Int) - 1) (by omega) (by omega)]
                  (conv => whnf); refine ixE (j := (fr1 ++ [g]).length) sl81 sg2 2 rfl (by simp) (by simp; omega) ?_
                  (conv => whnf); refine VC.fa fl85_1 ?_
                  (conv => whnf); refine ld1 (v := .int .i64 (closeD ds fD).2.alt) ct3 (fr_cell sg2 (k := 1) rfl) trivial ?_
                  (conv => whnf); refine VDraw.heldZ (fun k => k = sb) [14] (sq [0,1,2,3,4,5,6,7,8,9,10,11,12,13] (.f 14 .e)) rfl (by kernel_rfl) ?_
                  (conv => whnf); refine VC.fa fl83_1 ?_
                  (conv => whnf); refine ld1 (v := .slice (some ⟨fb, 0, none⟩) n fc) ct81 (by rw [(sg2.blk 0 rfl).cell]; rfl) rfl ?_
                  (conv => whnf); refine VC.fa fl83_1 ?_
                  (conv => whnf); refine ld1 (v := .slice (some ⟨fb, 0, none⟩) n fc) ct81 (by rw [(sg2.blk 0 rfl).cell]; rfl) rfl ?_
                  have hcap := sg2.capT 2 rfl
                  simp only [List.length_append, List.length_singleton] at hcap
                  (conv => whnf); rw [w64 (x := (n : Int) - 1) (by omega) (by omega)]
                  rw [show (n : Int) - 1 = ((fr1.length + 1 : Nat) : Int) by omega]
                  (conv => whnf); refine vcutH sl81 (by omega) (by omega) ?_
                  (conv => whnf); refine VC.fa fl83_1 ?_
                  have sg3 := sg2.popT 2 rfl
                  (conv => whnf); refine st1B sg3 0 ct81 rfl (by show _ < (2 : Nat); decide) rfl fun G4 sg4 => ?_
                  rw [Int.toNat_natCast] at sg4
                  replace sg4 : StB (Old H) H G4 (stP sb fb na2 nc2 fc (fr1.length + 1) (closeD ds fD).1 (fr1 ++ [g]) [pB tRe q2 reZ]) := by
                    have e : (fr1 ++ [g]).length = fr1.length + 1 := by simp
                    have := sg4
                    simp only [List.length_append, List.length_singleton] at this
                    exact this
                  (conv => whnf); refine VDraw.heldZ (fun k => k = sb) [13] (sq [0,1,2,3,4,5,6,7,8,9,10,11,12] (.f 13 .e)) rfl (by kernel_rfl) ?_
                  (conv => whnf); refine VC.fa fl83_1 ?_
                  (conv => whnf); refine ld1 (v := .slice (some ⟨fb, 0, none⟩) (fr1.length + 1) fc) ct81 (by rw [(sg4.blk 0 rfl).cell]; rfl) rfl ?_
                  (conv => whnf); refine VC.fa fl83_1 ?_
                  (conv => whnf); refine ld1 (v := .slice (some ⟨fb, 0, none⟩) (fr1.length + 1) fc) ct81 (by rw [(sg4.blk 0 rfl).cell]; rfl) rfl ?_
                  (conv => whnf); rw [w64 (x := ((fr1.length + 1 : Nat) : Int) - 1) (by omega) (by omega)]
                  (conv => whnf); refine ixE (j := (fr1).length) sl81 sg4 2 rfl (by simp) (by omega) ?_
                  (conv => whnf); refine VC.fa fl85_5 ?_
                  (conv => whnf); refine st1F (k := 5) (f' := { g with factor := (closeD ds fD).2.alt }) sg4 ct3 (by decide) rfl rfl fun G5 sg5 ja => ?_
                  (conv => whnf); rw [w64 (x := (i : Int) + 1) (by omega) (by omega)]
                  obtain ⟨us, k1, k2⟩ := close_goes hR hF
                  exact ⟨rfl, i + 1, rfl, ⟨_, fs1, _, _, fr1, { g with factor := (closeD ds fD).2.alt }, _, _, _, _, _, GO (pstep_close h41), by omega, k1, ⟨hG.place, hG.alt.more, hG.meet.more, hG.sign, hG.row.more, k2.alt⟩, hK1.more, by omega, by simp only [List.length_cons] at hlf; omega, sg5⟩, by omega⟩
              · have d : (((bt t i : Nat) : Int) == 41) = false := nofl h41
                (conv => whnf); rw [d]
                clear d
                (conv => whnf); refine VCall.mk (dsettle_c sg hN (by omega)) ?_
                rintro v G2 ⟨na2, nc2, sg2⟩
                have hcl := settleD_len ds fD
                obtain ⟨us, k1, k2⟩ := settle_goes hR hF
                have hkm := hK.more (us := us)
                have hN2 := settleD_num (ds := ds) hN (by omega)
                obtain ⟨ds2, f2, hq⟩ : ∃ ds2 f2, settleD ds fD = (ds2, f2) := ⟨_, _, rfl⟩
                rw [hq] at sg2 k1 k2 hcl hN2
                replace sg2 : StB (Old H) H G2 (stP sb fb na2 nc2 fc n ds2 (fr ++ [f2]) [pB tRe q2 reZ]) := sg2
                replace k1 : Raw ds2 (ws ++ us) := k1
                replace k2 : FrR (ws ++ us) f2 (settleF f) := k2
                replace hcl : ds2.length ≤ ds.length + 1 := hcl
                replace hN2 : FrN f2 := hN2
                by_cases h40 : bt t i = 40
                · have d : (((bt t i : Nat) : Int) == 40) = true := by rw [h40]; rfl
                  (conv => whnf); rw [d]
                  clear d
                  (conv => whnf); refine VC.fa fl83_1 ?_
                  (conv => whnf); refine ld1 (v := .slice (some ⟨fb, 0, none⟩) n fc) ct81 (by rw [(sg2.blk 0 rfl).cell]; rfl) trivial ?_
                  by_cases hdeep : 1000 ≤ fs.length
                  · have d3 : decide (1000 < (n : Int)) = true := decide_eq_true (by omega)
                    (conv => whnf); rw [d3]
                    (conv => whnf); refine vbuildS Tryz.underlying32 rfl _ re_z reZ rfl ?_
                    (conv => whnf); refine stNB (cs := reZ) sg2 3 rfl rfl (Nat.le_refl _) rfl fun Gz sz => ?_
                    have ez : splice reZ 0 reZ = reZ := splAll rfl
                    rw [ez] at sz
                    (conv => whnf); refine ldN (cs := reZ) ag32 (ld_reZ (sz.blk 3 rfl)) trivial ?_
                    refine ⟨sz.old, ?_⟩
                    unfold PdAns
                    rw [hpM, ER (pstep_deep h40 hdeep)]
                    rfl
                  · have d3 : decide (1000 < (n : Int)) = false := decide_eq_false (by omega)
                    (conv => whnf); rw [d3]
                    (conv => whnf); refine VDraw.heldZ (fun k => k = sb) [11] (sq [0,1,2,3,4,5] (.f 6 (.f 7 (.f 8 (sq [9,10] (.f 11 .e)))))) rfl (by kernel_rfl) ?_
                    (conv => whnf); refine VC.fa fl83_1 ?_
                    (conv => whnf); refine ld1 (v := .slice (some ⟨fb, 0, none⟩) n fc) ct81 (by rw [(sg2.blk 0 rfl).cell]; rfl) rfl ?_
                    (conv => whnf); refine VCall.mk (open_c (i : Int) G2) ?_
                    rintro _ G3 ⟨rfl, ha3⟩
                    have sg3 := sg2.call ha3
                    refine ⟨fun k hk => by rw [show k = sb from hk]; exact (sg3.blk 0 rfl).trans (sg2.blk 0 rfl).symm, ?_⟩
                    (conv => whnf); refine vbuild1 sl81 (frO (i : Int)) rfl rfl (by decide) (by decide) ?_
                    intro zz G4 hz hs4 hb4 ha4
                    have sg4 := sg3.skip hz ha4
                    refine ⟨fun k hk => by rw [show k = sb from hk]; exact (sg4.blk 0 rfl).trans (sg2.blk 0 rfl).symm, ?_⟩
                    (conv => whnf); refine appO (ys := [(⟨i, -1, -1, 0, -1, -1⟩ : FrD)]) (ds := frO (i : Int)) sg4 2 sl81 rfl (hb4.cells (o := 0) (cs := frO (i : Int)) fun j v hv => by rw [Nat.zero_add]; exact hv) (Ty.reps_one (T := tFr) rfl) rfl (fun u hu => List.all_eq_true.1 (fr_ones ⟨i, -1, -1, 0, -1, -1⟩) u hu) (by simp; omega) (by decide) fun a5 c5 G5 sg5 ha5 => ?_
                    refine ⟨fun k hk => by rw [show k = sb from hk]; exact (sg5.blk 0 rfl).trans (sg2.blk 0 rfl).symm, ?_⟩
                    obtain ⟨fb5, rfl⟩ := sg5.adr 2 rfl (by simp)
                    (conv => whnf); refine VC.fa fl83_1 ?_
                    (conv => whnf); refine st1B sg5 0 ct81 rfl (by show _ < (2 : Nat); decide) rfl fun G6 sg6 => ?_
                    replace sg6 : StB (Old H) H G6 (stP sb fb5 na2 nc2 c5 ((fr ++ [f2]).length + 1) ds2 ((fr ++ [f2]) ++ [(⟨i, -1, -1, 0, -1, -1⟩ : FrD)]) [pB tRe q2 reZ]) := sg6
                    (conv => whnf); rw [w64 (x := (i : Int) + 1) (by omega) (by omega)]
                    exact ⟨rfl, i + 1, rfl, ⟨_, settleF f :: fs, ds2, ws ++ us, fr ++ [f2], _, _, _, _, _, _, GO (pstep_open h40 (by omega)), by omega, k1, open_r _ _, hkm.cons k2, by omega, by simp only [List.length_cons]; omega, sg6⟩, by omega⟩
                · have d : (((bt t i : Nat) : Int) == 40) = false := nofl h40
                  (conv => whnf); rw [d]
                  clear d
                  (conv => whnf); refine VCall.mk (refRead_c (i := i) (by omega) hit) ?_
                  rintro v G3 ⟨hag3, hRd⟩
                  have sg3 := sg2.call hag3
                  have hfb : firstB (bt t i) := ⟨h124, h38, h45, h41, hpost⟩
                  unfold RdAnsD at hRd
                  cases hrs : readSet t i with
                  | inl e =>
                    rw [hrs] at hRd
                    replace hRd : v = .tuple #[zeroD, .int .i64 0, .int .i64 10, .int .i64 (e : Int)] := hRd
                    subst hRd
                    (conv => whnf); refine valloc zeroD (bitsL 0#256) zeroD_z rfl ?_
                    intro q15 G4 hq4 hs4 hb4 ha4
                    have sg4 := sg3.skip hq4 ha4
                    have sg4' := sg3.box hq4 hs4 hb4 ha4
                    (conv => whnf); refine stNB (cs := bitsL 0#256) sg4' 4 (szD 0) rfl (Nat.le_of_eq (Nat.zero_add _)) (onD 0) fun G5 sg5 => ?_
                    replace sg5 : StB (Old H) H G5 (stP sb fb na2 nc2 fc n ds2 (fr ++ [f2]) [pB tRe q2 reZ]) := sg5.subl (List.Sublist.cons_cons _ (List.Sublist.cons_cons _ (List.Sublist.cons_cons _ (List.Sublist.cons_cons _ (List.nil_sublist _)))))
                    (conv => whnf)
                    (conv => whnf); refine vbuildS Tryz.underlying32 rfl _ re_z reZ rfl ?_
                    (conv => whnf); refine stNB (cs := reZ) sg5 3 rfl rfl (Nat.le_refl _) rfl fun Gz sz => ?_
                    have ez : splice reZ 0 reZ = reZ := splAll rfl
                    rw [ez] at sz
                    (conv => whnf); refine ldN (cs := reZ) ag32 (ld_reZ (sz.blk 3 rfl)) trivial ?_
                    refine ⟨sz.old, ?_⟩
                    unfold PdAns
                    rw [hpM, ER (pstep_clsE hfb h40 hrs)]
                    rfl
                  | inr y =>
                    obtain ⟨x, kk⟩ := y
                    rw [hrs] at hRd
                    replace hRd : v = .tuple #[.agg (bitsL x).toArray, .int .i64 (kk : Int), .int .i64 0, .int .i64 0] := hRd
                    subst hRd
                    have hok := readSet_ok hrs
                    (conv => whnf); refine valloc zeroD (bitsL 0#256) zeroD_z rfl ?_
                    intro q15 G4 hq4 hs4 hb4 ha4
                    have sg4 := sg3.box hq4 hs4 hb4 ha4
                    (conv => whnf); refine stNB (cs := bitsL x) sg4 4 (szD x) rfl (by rw [bitsL_len, bitsL_len]; decide) (onD x) fun G5 sg5 => ?_
                    rw [splAll (show (bitsL x).length = (bitsL 0#256).length by rw [bitsL_len, bitsL_len])] at sg5
                    replace sg5 : StB (Old H) H G5 (stP sb fb na2 nc2 fc n ds2 (fr ++ [f2]) [pB tRe q2 reZ, pB 92 q15 (bitsL x)]) := sg5
                    have hx5 : Blk G5 q15 92 (bitsL x) := sg5.blk 4 rfl
                    (conv => whnf); refine VDraw.heldZ (fun k => k = sb ∨ k = q15) [11] (sq [0,1,2,3,4,5,6] (.f 7 (.f 8 (sq [9,10] (.f 11 .e))))) rfl (by kernel_rfl) ?_
                    (conv => whnf); refine VC.fa fl83_0 ?_
                    (conv => whnf); refine ld1 (v := .slice na2 ds2.length nc2) ct30 (by rw [(sg5.blk 0 rfl).cell]; rfl) (.inl rfl) ?_
                    (conv => whnf); refine ldN (cs := bitsL x) (agD x) (ld_bits hx5) (.inr rfl) ?_
                    (conv => whnf); refine rn_build1 1 x ?_
                    (conv => whnf); refine vbuild1 sl30 (rnL (clsD x)) rfl (rnL_len _) (by decide) (by decide) ?_
                    intro zz G6 hz hs6 hb6 ha6
                    have sg6 := sg5.skip hz ha6
                    refine ⟨fun k hk => by
                      rcases hk with hk | hk
                      · rw [show k = sb from hk]; exact (sg6.blk 0 rfl).trans (sg5.blk 0 rfl).symm
                      · rw [show k = q15 from hk]; exact (sg6.blk 4 rfl).trans hx5.symm, ?_⟩
                    (conv => whnf); refine appG (ys := [clsD x]) sg6 1 sl30 rfl (hb6.cells (o := 0) (cs := rnL (clsD x)) fun j v hv => by rw [Nat.zero_add]; exact hv) (Ty.reps_one ⟨rfl, num_in (x := 1) (by unfold NumOk; omega), num_in (x := 0) (by unfold NumOk; omega), num_in (x := 0) (by unfold NumOk; omega), num_in (x := 0) (by unfold NumOk; omega), num_in (x := 0) (by unfold NumOk; omega)⟩) rfl (fun u hu => List.all_eq_true.1 (rn_ones _) u hu) (by simp [maxLen]; omega) (by simp; omega) fun a7 c7 G7 sg7 ha7 => ?_
                    have el : ds2.length + [clsD x].length = (ds2 ++ [clsD x]).length := by simp
                    rw [el] at sg7 ⊢
                    refine ⟨fun k hk => by
                      rcases hk with hk | hk
                      · rw [show k = sb from hk]; exact (sg7.blk 0 rfl).trans (sg5.blk 0 rfl).symm
                      · rw [show k = q15 from hk]; exact (sg7.blk 4 rfl).trans hx5.symm, ?_⟩
                    (conv => whnf); refine VC.fa fl83_0 ?_
                    (conv => whnf); refine st1B sg7 0 ct30 rfl (by show _ < (2 : Nat); decide) rfl fun G8 sg8 => ?_
                    replace sg8 : StB (Old H) H G8 (stP sb fb a7 c7 fc n (ds2 ++ [clsD x]) (fr ++ [f2]) [pB tRe q2 reZ, pB 92 q15 (bitsL x)]) := sg8
                    have w1 : IntKind.wrap .i64 (((ds2 ++ [clsD x]).length : Int) - 1) = (ds2.length : Int) := by
                      rw [List.length_append, List.length_singleton, w64 (by omega) (by omega)]; omega
                    (conv => whnf); refine VDraw.heldZ (fun k => k = sb) [18] (sq [0,1,2,3,4,5,6,7,8,9,10,11,12,13,14,15,16,17] (.f 18 .e)) rfl (by kernel_rfl) ?_
                    (conv => whnf); refine VC.fa fl83_1 ?_
                    (conv => whnf); refine ld1 (v := .slice (some ⟨fb, 0, none⟩) n fc) ct81 (by rw [(sg8.blk 0 rfl).cell]; rfl) rfl ?_
                    (conv => whnf); refine VC.fa fl83_1 ?_
                    (conv => whnf); refine ld1 (v := .slice (some ⟨fb, 0, none⟩) n fc) ct81 (by rw [(sg8.blk 0 rfl).cell]; rfl) rfl ?_
                    (conv => whnf); rw [w64 (x := (n : Int) - 1) (by omega) (by omega)]
                    (conv => whnf); refine VC.fa fl83_0 ?_
                    (conv => whnf); refine ld1 (v := .slice a7 (ds2 ++ [clsD x]).length c7) ct30 (by rw [(sg8.blk 0 rfl).cell]; rfl) rfl ?_
                    (conv => whnf); rw [w1]
                    (conv => whnf); refine ixE (j := fr.length) sl81 sg8 2 rfl (by simp) (by omega) ?_
                    (conv => whnf); refine VC.fa fl85_5 ?_
                    (conv => whnf); refine st1F (k := 5) (f' := { f2 with factor := (ds2.length : Int) }) sg8 ct3 (by decide) rfl rfl fun G9 sg9 ja => ?_
                    (conv => whnf)
                    replace sg9 : StB (Old H) H G9 (stP sb fb a7 c7 fc n (ds2 ++ [clsD x]) (fr ++ [{ f2 with factor := (ds2.length : Int) }]) [pB tRe q2 reZ]) := sg9.subl (List.Sublist.cons_cons _ (List.Sublist.cons_cons _ (List.Sublist.cons_cons _ (List.Sublist.cons_cons _ (List.nil_sublist _)))))
                    exact ⟨rfl, kk, rfl, ⟨_, fs, ds2 ++ [clsD x], ws ++ us ++ [.cls x], fr, { f2 with factor := (ds2.length : Int) }, _, _, _, _, n, GO (pstep_cls hfb h40 hrs), by omega, k1.add (w := .cls x) rfl, ⟨k2.place, k2.alt.more, k2.meet.more, k2.sign, k2.row.more, IxR.new k1 rfl⟩, hkm.more, by simp only [List.length_append, List.length_singleton]; omega, hlf, sg9⟩, by omega⟩
    · skip
      obtain rfl : i = t.size := by omega
      have hend : prun t ⟨0, openF (-1), []⟩ = pfin ⟨t.size, f, fs⟩ := hrun.trans (prun_end (by show ¬ t.size < t.size; omega))
      (conv => whnf); refine VC.fa fl83_1 ?_
      (conv => whnf); refine ld1 (v := .slice (some ⟨fb, 0, none⟩) n fc) ct81 (by rw [(sg.blk 0 rfl).cell]; rfl) trivial ?_
      cases hK with
      | @cons fr1 fs1 g ga hK1 hG =>
        have hn2 : n = fr1.length + 1 + 1 := by rw [hlen]; simp
        have d3 : decide (1 < (n : Int)) = true := decide_eq_true (by omega)
        have ne1 : sb ≠ q2 := (sg.blk 0 rfl).ne (sg.blk 3 rfl) (by decide)
        have ne2 : fb ≠ q2 := fun e => sg.apart2 (i := 2) (j := 3) rfl rfl (by decide) fb (.inl ⟨0, n, fc, rfl⟩) e
        (conv => whnf); rw [d3]
        (conv => whnf); refine VDraw.held (fun k => k = sb ∨ k = fb) 17 (sq [0,1,2,3,4,5,6,7,8,9,10,11,12,13] (.f 14 (sq [15,16] .e))) rfl (by kernel_rfl) ?_
        (conv => whnf); refine vbuildS Tryz.underlying32 rfl _ re_z reZ rfl ?_
        (conv => whnf); refine VC.fa fl83_1 ?_
        (conv => whnf); refine ld1 (v := .slice (some ⟨fb, 0, none⟩) n fc) ct81 (by rw [(sg.blk 0 rfl).cell]; rfl) (.inl rfl) ?_
        (conv => whnf); refine VC.fa fl83_1 ?_
        (conv => whnf); refine ld1 (v := .slice (some ⟨fb, 0, none⟩) n fc) ct81 (by rw [(sg.blk 0 rfl).cell]; rfl) (.inl rfl) ?_
        (conv => whnf); rw [w64 (x := (n : Int) - 1) (by omega) (by omega)]
        (conv => whnf); refine ixE (j := (fr1 ++ [g]).length) sl81 sg 2 rfl (by simp) (by simp; omega) ?_
        (conv => whnf); refine VC.fa fl85_0 ?_
        (conv => whnf); refine ld1 (v := .int .i64 fD.place) ct3 (fr_cell sg (k := 0) rfl) (.inr rfl) ?_
        (conv => whnf); refine stNBa (cs := reZ) sg 3 rfl rfl (Nat.le_refl _) rfl fun Gz sz jz jq => ?_
        have ez : splice reZ 0 reZ = reZ := splAll rfl
        rw [ez] at sz
        refine ⟨jz.mono fun k hk => by
          rcases hk with hk | hk
          · rw [show k = sb from hk]; exact ne1
          · rw [show k = fb from hk]; exact ne2, ?_⟩
        (conv => whnf); refine ldN (cs := reZ) ag32 (ld_reZ (sz.blk 3 rfl)) trivial ?_
        refine ⟨sz.old, ?_⟩
        unfold PdAns
        rw [hpM, hend]
        show _ = Value.tuple #[.agg reZ.toArray, .int .i64 21, .int .i64 f.place]
        rw [← hF.place]
        rfl
      | nil =>
        have hn1 : n = 1 := by rw [hlen]; rfl
        have d3 : decide (1 < (n : Int)) = false := decide_eq_false (by omega)
        (conv => whnf); rw [d3]
        (conv => whnf); refine VCall.mk (dclose_c sg hN (by omega)) ?_
        rintro v G2 ⟨na2, nc2, sg2⟩
        have hcl := closeD_len ds fD
        obtain ⟨us, k1, k2⟩ := close_goes hR hF
        have kalt := k2.alt
        have hca : (closeF f).alt = some ((closeF f).alt.getD .eps) := rfl
        obtain ⟨r, hr⟩ : ∃ r, r = (closeF f).alt.getD .eps := ⟨_, rfl⟩
        rw [hca, ← hr] at kalt
        obtain ⟨jr, wr, er1, er2, er3⟩ := kalt
        have hfin : prun t ⟨0, openF (-1), []⟩ = (if 2000 < r.nodes then .inl (24, 0) else .inr r) := by
          rw [hend, hr]; rfl
        obtain ⟨ds2, f2, hq⟩ : ∃ ds2 f2, closeD ds fD = (ds2, f2) := ⟨_, _, rfl⟩
        rw [hq] at sg2 k1 k2 hcl er1
        replace sg2 : StB (Old H) H G2 (stP sb fb na2 nc2 fc n ds2 ([] ++ [f2]) [pB tRe q2 reZ]) := sg2
        replace k1 : Raw ds2 (ws ++ us) := k1
        replace hcl : ds2.length ≤ ds.length + 4 := hcl
        replace er1 : f2.alt = (jr : Int) := er1
        have hwl := k1.len
        have hjl := (List.getElem?_eq_some_iff.1 er2).1
        (conv => whnf); refine VC.fa fl83_1 ?_
        (conv => whnf); refine ld1 (v := .slice (some ⟨fb, 0, none⟩) n fc) ct81 (by rw [(sg2.blk 0 rfl).cell]; rfl) trivial ?_
        (conv => whnf); refine ixE (j := ([] : List FrD).length) sl81 sg2 2 rfl (by simp) rfl ?_
        (conv => whnf); refine VC.fa fl85_1 ?_
        (conv => whnf); refine ld1 (v := .int .i64 (jr : Int)) ct3 (by rw [← er1]; exact fr_cell sg2 (k := 1) rfl) trivial ?_
        (conv => whnf); refine VC.fa fl83_0 ?_
        (conv => whnf); refine ld1 (v := .slice na2 ds2.length nc2) ct30 (by rw [(sg2.blk 0 rfl).cell]; rfl) trivial ?_
        (conv => whnf); refine VCall.mk (sizes_c (S := Old G2) (fun k hk => hk) k1 (by omega) (sg2.view 1 rfl)) ?_
        rintro _ G3 ⟨bz, rfl, stz⟩
        have sg3 := sg2.call stz.old
        have hszg := szL_get (j := (ws ++ us).length) er2 hjl
        (conv => whnf); refine ixO (j := jr) (x := szI wr) sl54 stz 0 rfl hszg rfl fun b9 o9 cs9 hO9 hc9 hr9 => ?_
        obtain ⟨rfl, -⟩ := hr9
        (conv => whnf); refine ld1 (v := .int .i64 (szI wr)) ct3 hc9.one trivial ?_
        have hszr : szI wr = ((szR r : Nat) : Int) := by unfold szI; rw [er3]
        rw [hszr]
        by_cases hn : 2000 < r.nodes
        · have d4 : decide (2000 < ((szR r : Nat) : Int)) = true := decide_eq_true (by unfold szR; omega)
          rw [if_pos hn] at hfin
          (conv => whnf); rw [d4]
          (conv => whnf); refine vbuildS Tryz.underlying32 rfl _ re_z reZ rfl ?_
          (conv => whnf); refine stNB (cs := reZ) sg3 3 rfl rfl (Nat.le_refl _) rfl fun Gz sz => ?_
          have ez : splice reZ 0 reZ = reZ := splAll rfl
          rw [ez] at sz
          (conv => whnf); refine ldN (cs := reZ) ag32 (ld_reZ (sz.blk 3 rfl)) trivial ?_
          refine ⟨sz.old, ?_⟩
          unfold PdAns
          rw [hpM, hfin]
          rfl
        · have d4 : decide (2000 < ((szR r : Nat) : Int)) = false := decide_eq_false (by unfold szR; omega)
          rw [if_neg hn] at hfin
          (conv => whnf); rw [d4]
          (conv => whnf); refine valloc _ reZ re_z rfl ?_
          intro q20 G4 hq4 hs4 hb4 ha4
          have sq4 := ((St.nil G3).box hq4 hs4 hb4 ha4).nils tRn 94
          replace sq4 : StB (Old G3) G3 G4 (reP q20 none 0 [] 0 []) := sq4
          have sg4 := sg3.call sq4.old
          (conv => whnf); refine VC.fa fl83_0 ?_
          (conv => whnf); refine ld1 (v := .slice na2 ds2.length nc2) ct30 (by rw [(sg4.blk 0 rfl).cell]; rfl) trivial ?_
          (conv => whnf); refine VCall.mk (grow_c wr (Old G3) G3 G4 q20 0 none [] 0 [] na2 nc2 jr ds2 (ws ++ us) k1 (sg3.view 1 rfl) (fun k hk => hk) er2 (by rw [er3]; simp; omega) sq4) ?_
          rintro _ G5 ⟨ms, a5, c5, hm5, rfl, ht5, sq5⟩
          rw [er3] at hm5 ht5
          rw [List.nil_append] at ht5 sq5
          (conv => whnf); refine VC.fa fl32_1 ?_
          (conv => whnf); refine st1B sq5 0 ct3 rfl (by show _ < (2 : Nat); decide) rfl fun G6 sq6 => ?_
          rw [show ([] : List RnM).length + ms.length - 1 = ms.length - 1 by simp] at ht5 sq6
          replace sq6 : StB (Old G3) G3 G6 (reP q20 a5 c5 ms ((ms.length - 1 : Nat) : Int) []) := sq6
          have sg6 := sg3.call sq6.old
          have lds : Cells G6 q20 0 (reL (.slice a5 ms.length c5) ((ms.length - 1 : Nat) : Int)) := (sq6.blk 0 rfl).cells fun j v hv => by rw [Nat.zero_add]; exact hv
          (conv => whnf); refine ldN (cs := reL (.slice a5 ms.length c5) ((ms.length - 1 : Nat) : Int)) ag32 lds trivial ?_
          (conv => whnf); refine stNBa (cs := reL (.slice a5 ms.length c5) ((ms.length - 1 : Nat) : Int)) sg6 3 rfl rfl (Nat.le_refl _) rfl fun G7 sg7 ja7 js7 => ?_
          rw [splAll (show (reL (.slice a5 ms.length c5) ((ms.length - 1 : Nat) : Int)).length = reZ.length from rfl)] at sg7
          have ldr : Cells G7 q2 0 (reL (.slice a5 ms.length c5) ((ms.length - 1 : Nat) : Int)) := (sg7.blk 3 rfl).cells fun j v hv => by rw [Nat.zero_add]; exact hv
          (conv => whnf); refine ldN (cs := reL (.slice a5 ms.length c5) ((ms.length - 1 : Nat) : Int)) ag32 ldr trivial ?_
          have ow := St.own (H0 := G3) sq6 1 rfl
          have q2l : q2 < G3.size := (sg3.blk 3 rfl).lt
          refine ⟨sg7.old, ?_⟩
          unfold PdAns
          rw [hpM, hfin]
          refine ⟨ms, a5, c5, ms.length - 1, rfl, ht5, hm5, ?_⟩
          refine (ow.agr ja7 (fun b hb => by have := (ow.lt hb).1; omega) (fun b hb => hb.elim)).lower ?_
          exact sg3.size
end Go.Proofs.YtlnmhfhdjnenoaaGreatDoor
/- nfa.Build over any tree: an error where there are signs: the walk. -/
set_option linter.unusedVariables false
set_option linter.unusedSimpArgs false
set_option maxRecDepth 100000
namespace Go.Proofs.YtlnmhfhdjnenoaaGreatDoor
open Go.VC
def erI (bad : Bool) : Int := if bad then 30 else 0
def bdE (er : Bool) (n : Nat) (v sub : Value) : List Value := [.int .i64 (n : Int), .int .i64 0, .int .i64 0, v, sub, .int .i64 (erI er)]
section
variable {B : Nat → Prop} {H0 H : Heap} {rest : List Pc} {bb n : Nat} {v sub : Value} {er : Bool}
theorem bstate_vE {K : Value → Heap → Prop} (st : StB B H0 H (pB tBd bb (bdE er n v sub) :: rest)) (hn : n ≤ 2000000) (k : ∀ H', StB B H0 H' (pB tBd bb (bdE er (n + 1) v sub) :: rest) → K (.int .i64 (n : Int)) H') :
    VCall Tryz.prog 70 #[.pointer (some ⟨bb, 0, none⟩)] H K := by
  refine VCall.mk (R := fun r H' => r = .int .i64 (n : Int) ∧ StB B H0 H' (pB tBd bb (bdE er (n + 1) v sub) :: rest)) ?_ fun r H' ⟨h1, h2⟩ => by rw [h1]; exact k H' h2
  refine FnOk.of_vc Tryz.func70 rfl (Tryz.call70 _) ?_
  (conv => whnf); refine fa fl118_0 ?_
  (conv => whnf); refine fa fl37_0 ?_
  (conv => whnf); refine ld1 (v := .int .i64 (n : Int)) ct3 (by rw [(st.blk 0 rfl).cell]; rfl) trivial ?_
  (conv => whnf); rw [w64 (x := (n : Int) + 1) (by omega) (by omega)]
  (conv => whnf); refine fa fl118_0 ?_
  (conv => whnf); refine fa fl37_0 ?_
  (conv => whnf); refine st1B st 0 ct3 rfl (show 0 < 6 by decide) rfl fun H1 st1 => ?_
  (conv => whnf); refine fa fl118_0 ?_
  (conv => whnf); refine fa fl37_0 ?_
  (conv => whnf); refine ld1 (v := .int .i64 ((n : Int) + 1)) ct3 (by rw [(st1.blk 0 rfl).cell]; rfl) trivial ?_
  (conv => whnf); rw [w64 (x := (n : Int) + 1 - 1) (by omega) (by omega), show (n : Int) + 1 - 1 = (n : Int) by omega]
  (conv => whnf)
  exact ⟨rfl, st1⟩
theorem bsil_vE {K : Value → Heap → Prop} {a : Option Addr} {c p q : Nat} {es : List EdM} (st : StB B H0 H (pB tBd bb (bdE er n (.slice a es.length c) sub) :: pS tEd 104 a es.length c es :: rest)) (hp : p ≤ 2000000) (hq : q ≤ 2000000) (hl : es.length + 1 ≤ 4194304)
    (k : ∀ a' c' H', StB B H0 H' (pB tBd bb (bdE er n (.slice a' (es ++ [silE p q]).length c') sub) :: pS tEd 104 a' (es ++ [silE p q]).length c' (es ++ [silE p q]) :: rest) → K (.tuple #[]) H') :
    VCall Tryz.prog 71 #[.pointer (some ⟨bb, 0, none⟩), .int .i64 (p : Int), .int .i64 (q : Int)] H K := by
  refine VCall.mk (R := fun r H' => r = .tuple #[] ∧ ∃ a' c', StB B H0 H' (pB tBd bb (bdE er n (.slice a' (es ++ [silE p q]).length c') sub) :: pS tEd 104 a' (es ++ [silE p q]).length c' (es ++ [silE p q]) :: rest)) ?_ fun r H' ⟨h1, a', c', h2⟩ => by rw [h1]; exact k a' c' H' h2
  refine FnOk.of_vc Tryz.func71 rfl (Tryz.call71 _) ?_
  (conv => whnf); refine fa fl118_0 ?_
  (conv => whnf); refine fa fl37_3 ?_
  (conv => whnf); refine ld1 (v := .slice a es.length c) ct35 (by rw [(st.blk 0 rfl).cell]; rfl) trivial ?_
  (conv => whnf); refine sil_build p q ?_
  (conv => whnf); refine vbuild1 sl35 (edL (silE p q)) rfl rfl (by decide) (by decide) ?_
  intro y H1 hy hs1 hb1 ha1
  have st1 := st.skip hy ha1
  (conv => whnf); refine appO (ys := [silE p q]) st1 1 sl35 rfl (hb1.cells (o := 0) (cs := edL (silE p q)) fun j v hv => by rw [Nat.zero_add]; exact hv) (Ty.reps_one ⟨rfl, edge_ok hp hq _ _⟩) rfl (fun u hu => List.all_eq_true.1 (ed_ones _) u hu) (by simpa using hl) (by decide) fun a9 c9 H9 st9 _ => ?_
  (conv => whnf); refine fa fl118_0 ?_
  (conv => whnf); refine fa fl37_3 ?_
  (conv => whnf); refine st1B st9 0 ct35 rfl (show 3 < 6 by decide) rfl fun H10 st10 => ?_
  (conv => whnf)
  have el : es.length + [silE p q].length = (es ++ [silE p q]).length := by simp
  rw [el] at st10
  exact ⟨rfl, a9, c9, st10⟩
theorem btake_vE {K : Value → Heap → Prop} {a : Option Addr} {c : Nat} {es : List EdM} {s : BitVec 256} (st : StB B H0 H (pB tBd bb (bdE er n (.slice a es.length c) sub) :: pS tEd 104 a es.length c es :: rest)) (hn : n ≤ 1000000) (hl : es.length + 1 ≤ 4194304)
    (k : ∀ a' c' H', StB B H0 H' (pB tBd bb (bdE er (n + 2) (.slice a' (es ++ [setE n (n + 1) s]).length c') sub) :: pS tEd 104 a' (es ++ [setE n (n + 1) s]).length c' (es ++ [setE n (n + 1) s]) :: rest) → K (.tuple #[.int .i64 (n : Int), .int .i64 ((n + 1 : Nat) : Int)]) H') :
    VCall Tryz.prog 72 #[.pointer (some ⟨bb, 0, none⟩), setV s] H K := by
  refine VCall.mk (R := fun r H' => r = .tuple #[.int .i64 (n : Int), .int .i64 ((n + 1 : Nat) : Int)] ∧ ∃ a' c', StB B H0 H' (pB tBd bb (bdE er (n + 2) (.slice a' (es ++ [setE n (n + 1) s]).length c') sub) :: pS tEd 104 a' (es ++ [setE n (n + 1) s]).length c' (es ++ [setE n (n + 1) s]) :: rest)) ?_ fun r H' ⟨h1, a', c', h2⟩ => by rw [h1]; exact k a' c' H' h2
  refine FnOk.of_vc Tryz.func72 rfl (Tryz.call72 _) ?_
  (conv => whnf); refine vbox (setL s) rfl ?_
  intro x H1 hx hs1 hb1 ha1
  have st1 := (st.box hx hs1 hb1 ha1).perm (List.perm_append_singleton _ _)
  have st2 : StB B H0 H1 (pB tBd bb (bdE er n (.slice a es.length c) sub) :: pB 102 x (setL s) :: pS tEd 104 a es.length c es :: rest) := st1.perm (List.Perm.swap _ _ _)
  (conv => whnf); refine bstate_vE st2 (by omega) fun H3 st3 => ?_
  (conv => whnf); refine bstate_vE st3 (by omega) fun H4 st4 => ?_
  have hdis := st4.apart2 (i := 0) (j := 2) rfl rfl (by decide)
  have hdis2 := st4.apart2 (i := 1) (j := 2) rfl rfl (by decide)
  (conv => whnf); refine VDraw.heldZ (fun k => k < H4.size ∧ ¬ slB (.slice a es.length c) k) [15] (sq [0,1,2,3,4,5,6,7,8,9] (.f 10 (.f 11 (sq [12,13,14] (.f 15 .e))))) rfl (by kernel_rfl) ?_
  have hb4 : bb < H4.size ∧ ¬ slB (.slice a es.length c) bb := ⟨(st4.in_ 0 rfl rfl).2, fun h => hdis bb rfl (.inl h)⟩
  have hx4 : x < H4.size ∧ ¬ slB (.slice a es.length c) x := ⟨(st4.in_ 1 rfl rfl).2, fun h => hdis2 x rfl (.inl h)⟩
  (conv => whnf); refine fa fl118_0 ?_
  (conv => whnf); refine fa fl37_3 ?_
  (conv => whnf); refine ld1 (v := .slice a es.length c) ct35 (by rw [(st4.blk 0 rfl).cell]; rfl) hb4 ?_
  (conv => whnf); refine ldN (cs := setL s) ag102 ((st4.blk 1 rfl).cells fun j v hv => by rw [Nat.zero_add]; exact hv) hx4 ?_
  (conv => whnf); refine set_build n (n + 1) s ?_
  (conv => whnf); refine vbuild1 sl35 (edL (setE n (n + 1) s)) rfl rfl (by decide) (by decide) ?_
  intro y H5 hy hs5 hb5 ha5
  have st5 := st4.skip hy ha5
  refine ⟨ha5.mono fun k hk => by have := hk.1; omega, ?_⟩
  (conv => whnf); refine appO (ys := [setE n (n + 1) s]) st5 2 sl35 rfl (hb5.cells (o := 0) (cs := edL (setE n (n + 1) s)) fun j v hv => by rw [Nat.zero_add]; exact hv) (Ty.reps_one ⟨rfl, edge_ok (by omega) (by omega) _ _⟩) rfl (fun u hu => List.all_eq_true.1 (ed_ones _) u hu) (by simpa using hl) (by decide) fun a9 c9 H9 st9 ha9 => ?_
  refine ⟨(ha5.mono fun k hk => by have := hk.1; omega).trans (ha9.mono fun k hk => ⟨by have := hk.1; omega, hk.2⟩), ?_⟩
  (conv => whnf); refine fa fl118_0 ?_
  (conv => whnf); refine fa fl37_3 ?_
  (conv => whnf); refine st1B st9 0 ct35 rfl (show 3 < 6 by decide) rfl fun H10 st10 => ?_
  (conv => whnf)
  have el : es.length + [setE n (n + 1) s].length = (es ++ [setE n (n + 1) s]).length := by simp
  rw [el] at st10
  exact ⟨rfl, a9, c9, (st10.perm (List.Perm.swap _ _ _)).sub (List.sublist_cons_self _ _)⟩
end
abbrev bdP (bb : Nat) (er : Bool) (n : Nat) (a : Option Addr) (c : Nat) (es : List EdM) (rest : List Pc) : List Pc := pB tBd bb (bdE er n (.slice a es.length c) .nilFunc) :: pS tEd 104 a es.length c es :: rest
theorem run_nf {P : Program} {t : TypeId} {d : TypeDesc} (h : P.underlying t = some d) (hd : ∀ w : World, ∀ k : Nat, (Op.equalIn (k + 1) t .nilFunc .nilFunc).run P w = .ok true w) (w : World) : (Op.equal t .nilFunc .nilFunc).run P w = .ok true w := hd w 9999
theorem nfeq {P : Program} {t : TypeId} {x : Operand} {c : Value} {d : TypeDesc} {S : Nat → Prop} {H : Heap} {K : Value → Prop} (h : P.underlying t = some d) (hd : ∀ w : World, ∀ k : Nat, (Op.equalIn (k + 1) t .nilFunc .nilFunc).run P w = .ok true w) (k : K (.bool true)) : VDet P (do eqGuard .eql t x (.const c) .nilFunc .nilFunc; binOp .eql t .nilFunc .nilFunc) S H K := by
  refine VDet.mk _ (fun w _ => ?_) k
  simp [eqGuard, binOp, run_nf h hd]
/-- What part leaves, loosely. -/
structure PartW (B : Nat → Prop) (H0 : Heap) (bb : Nat) (er : Bool) (n : Nat) (es : List EdM) (rest : List Pc) (r : ReM) (v : Value) (H' : Heap) : Prop where
  ex : ∃ (p q n' : Nat) (es' : List EdM) (a' : Option Addr) (c' : Nat), v = .tuple #[.int .i64 (p : Int), .int .i64 (q : Int)] ∧ p ≤ 1000000 ∧ q ≤ 1000000 ∧ n ≤ n' ∧ n' ≤ n + 2 * r.nodes ∧ es'.length ≤ es.length + 4 * r.nodes ∧ StB B H0 H' (bdP bb (er || !r.plain) n' a' c' es' rest)
theorem node_z6 : (Tryz.prog.info? 166).bind (·.zero) = some (.agg #[.nilIface, .nilIface]) := rfl
theorem node_z7 : (Tryz.prog.info? 167).bind (·.zero) = some (.agg #[.nilIface, .nilIface]) := rfl
theorem bsplice_c {B : Nat → Prop} {H0 H : Heap} {rest : List Pc} {bb n c : Nat} {a : Option Addr} {es : List EdM} {er : Bool} {r : ReM} (st : StB B H0 H (bdP bb er n a c es rest)) :
    FnOk Tryz.prog 73 #[.pointer (some ⟨bb, 0, none⟩), nodeV r] H fun v H' => v = .tuple #[.int .i64 0, .int .i64 0] ∧ StB B H0 H' (bdP bb true n a c es rest) := by
  refine FnOk.of_vc Tryz.func73 rfl (Tryz.call73 _) ?_
  (conv => whnf); refine fa fl118_1 ?_
  (conv => whnf); refine ld1 (v := .nilFunc) ct39 (by rw [(st.blk 0 rfl).cell]; rfl) trivial ?_
  (conv => whnf); refine nfeq Tryz.underlying39 (fun w k => by simp [Op.equalIn, run_underlying Tryz.underlying39]) ?_
  (conv => whnf); refine fa fl118_2 ?_
  (conv => whnf); refine st1B st 0 ct25 rfl (show 5 < 6 by decide) rfl fun H1 st1 => ?_
  (conv => whnf)
  exact ⟨rfl, st1⟩
set_option maxHeartbeats 16000000 in
theorem partW_c {B : Nat → Prop} {H0 : Heap} {bb : Nat} : ∀ (r : ReM) {H : Heap} {rest : List Pc} {n : Nat} {a : Option Addr} {c : Nat} {es : List EdM} {er : Bool} (st : StB B H0 H (bdP bb er n a c es rest)), n + 2 * r.nodes ≤ 1000000 → es.length + 4 * r.nodes ≤ 4194304 →
    FnOk Tryz.prog 44 #[.pointer (some ⟨bb, 0, none⟩), nodeV r] H (PartW B H0 bb er n es rest r) := fun r => by
  induction r with
  | eps =>
    intro H rest n a c es er st hn hl
    refine FnOk.of_vc Tryz.func44 rfl (Tryz.call44 _) ?_
    (conv => whnf); refine fa fl118_2 ?_
    (conv => whnf); refine ld1 (v := .int .i64 (erI er)) ct25 (by rw [(st.blk 0 rfl).cell]; rfl) trivial ?_
    cases er with
    | true =>
      (conv => whnf)
      exact ⟨0, 0, n, es, a, c, rfl, by omega, by omega, by omega, by omega, by omega, st⟩
    | false =>
      (conv => whnf); refine vta_yes Tryz.underlying127 (by intro ms h; cases h) ?_
      (conv => whnf); refine valloc (.agg #[]) [] rfl rfl ?_
      intro x H1 hx hs1 hb1 ha1
      have st1 : StB B H0 H1 (pB 127 x [] :: bdP bb false n a c es rest) := (st.box hx hs1 hb1 ha1).perm (List.perm_append_singleton _ _)
      (conv => whnf); refine stNB (cs := []) st1 0 rfl rfl (Nat.le_refl _) rfl fun H2 st2 => ?_
      have st3 : StB B H0 H2 (bdP bb false n a c es rest) := st2.sub (List.sublist_cons_self _ _)
      simp only [ReM.nodes] at hn hl
      (conv => whnf); refine bstate_vE st3 (by omega) fun H4 st4 => ?_
      (conv => whnf); refine bstate_vE st4 (by omega) fun H5 st5 => ?_
      (conv => whnf); refine bsil_vE st5 (by omega) (by omega) (by omega) fun a' c' H6 st6 => ?_
      (conv => whnf)
      exact ⟨n, n + 1, n + 1 + 1, es ++ [silE n (n + 1)], a', c', rfl, by omega, by omega, by omega, by simp only [ReM.nodes]; omega, by simp [ReM.nodes], st6⟩
  | cls s =>
    intro H rest n a c es er st hn hl
    refine FnOk.of_vc Tryz.func44 rfl (Tryz.call44 _) ?_
    (conv => whnf); refine fa fl118_2 ?_
    (conv => whnf); refine ld1 (v := .int .i64 (erI er)) ct25 (by rw [(st.blk 0 rfl).cell]; rfl) trivial ?_
    cases er with
    | true =>
      (conv => whnf)
      exact ⟨0, 0, n, es, a, c, rfl, by omega, by omega, by omega, by omega, by omega, st⟩
    | false =>
      (conv => whnf); refine vta_no Tryz.underlying127 (by intro ms h; cases h) node_z1 (by decide) ?_
      (conv => whnf); refine vta_yes Tryz.underlying130 (by intro ms h; cases h) ?_
      (conv => whnf); refine valloc _ [.int .u64 0, .int .u64 0, .int .u64 0, .int .u64 0] node_z2 rfl ?_
      intro x H1 hx hs1 hb1 ha1
      have st1 : StB B H0 H1 (pB 130 x [.int .u64 0, .int .u64 0, .int .u64 0, .int .u64 0] :: bdP bb false n a c es rest) := (st.box hx hs1 hb1 ha1).perm (List.perm_append_singleton _ _)
      (conv => whnf); refine stNB (cs := setL s) st1 0 rfl rfl (Nat.le_refl _) rfl fun H2 st2 => ?_
      rw [splice_all (show (setL s).length = 4 from rfl)] at st2
      (conv => whnf); refine fa fl130_0 ?_
      (conv => whnf); refine ldN (cs := setL s) ag102 ((st2.blk 0 rfl).cells fun j v hv => by simpa using hv) trivial ?_
      have st3 : StB B H0 H2 (bdP bb false n a c es rest) := st2.sub (List.sublist_cons_self _ _)
      simp only [ReM.nodes] at hn hl
      (conv => whnf); refine btake_vE st3 (by omega) (by omega) fun a' c' H4 st4 => ?_
      (conv => whnf)
      exact ⟨n, n + 1, n + 2, es ++ [setE n (n + 1) s], a', c', rfl, by omega, by omega, by omega, by simp only [ReM.nodes]; omega, by simp [ReM.nodes], st4⟩
  | cat r1 r2 ih1 ih2 =>
    intro H rest n a c es er st hn hl
    refine FnOk.of_vc Tryz.func44 rfl (Tryz.call44 _) ?_
    (conv => whnf); refine fa fl118_2 ?_
    (conv => whnf); refine ld1 (v := .int .i64 (erI er)) ct25 (by rw [(st.blk 0 rfl).cell]; rfl) trivial ?_
    cases er with
    | true =>
      (conv => whnf)
      exact ⟨0, 0, n, es, a, c, rfl, by omega, by omega, by omega, by omega, by omega, st⟩
    | false =>
      (conv => whnf); refine vta_no Tryz.underlying127 (by intro ms h; cases h) node_z1 (by decide) ?_
      (conv => whnf); refine vta_no Tryz.underlying130 (by intro ms h; cases h) node_z2 (by decide) ?_
      (conv => whnf); refine vta_yes Tryz.underlying132 (by intro ms h; cases h) ?_
      (conv => whnf); refine valloc _ [.nilIface, .nilIface] node_z3 rfl ?_
      intro x H1 hx hs1 hb1 ha1
      have st1 : StB B H0 H1 (pB 132 x [.nilIface, .nilIface] :: bdP bb false n a c es rest) := (st.box hx hs1 hb1 ha1).perm (List.perm_append_singleton _ _)
      (conv => whnf); refine stNB (cs := [nodeV r1, nodeV r2]) st1 0 rfl rfl (Nat.le_refl _) (by simp [nodeV_one]) fun H2 st2 => ?_
      rw [splice_all (show ([nodeV r1, nodeV r2]).length = ([.nilIface, .nilIface] : List Value).length from rfl)] at st2
      have st3 : StB B H0 H2 (bdP bb false n a c es (pB 132 x [nodeV r1, nodeV r2] :: rest)) := st2.pickN 3 [1, 2, 0] (by decide)
      (conv => whnf); refine fa fl132_0 ?_
      (conv => whnf); refine ld1 (v := nodeV r1) ct24 (by rw [(st3.blk 2 rfl).cell]; rfl) trivial ?_
      (conv => whnf); refine VCall.mk (ih1 st3 (by simp only [ReM.nodes] at hn; omega) (by simp only [ReM.nodes] at hl; omega)) ?_
      rintro _ G4 ⟨p4, q4, n4, es4, a4, c4, rfl, hp4, hq4, hn4, hm4, he4, sg4⟩
      (conv => whnf); refine fa fl132_1 ?_
      (conv => whnf); refine ld1 (v := nodeV r2) ct24 (by rw [(sg4.blk 2 rfl).cell]; rfl) trivial ?_
      (conv => whnf); refine VCall.mk (ih2 sg4 (by simp only [ReM.nodes] at hn; omega) (by simp only [ReM.nodes] at hl; omega)) ?_
      rintro _ G5 ⟨p5, q5, n5, es5, a5, c5, rfl, hp5, hq5, hn5, hm5, he5, sg5⟩
      (conv => whnf); refine bsil_vE sg5 (by omega) (by omega) (by have hl2 := hl; simp [ReM.nodes] at hl2 ⊢; omega) fun b6 d6 H6 st6 => ?_
      (conv => whnf)
      refine ⟨p4, q5, n5, es5 ++ [silE q4 p5], b6, d6, rfl, hp4, hq5, by omega, by simp only [ReM.nodes]; omega, by simp only [ReM.nodes, List.length_append, List.length_singleton]; omega, ?_⟩
      have e : (false || !(ReM.cat r1 r2).plain) = ((false || !r1.plain) || !r2.plain) := by simp [ReM.plain]
      rw [e]
      exact st6.pickN 3 [0, 1] (by decide)
  | alt r1 r2 ih1 ih2 =>
    intro H rest n a c es er st hn hl
    refine FnOk.of_vc Tryz.func44 rfl (Tryz.call44 _) ?_
    (conv => whnf); refine fa fl118_2 ?_
    (conv => whnf); refine ld1 (v := .int .i64 (erI er)) ct25 (by rw [(st.blk 0 rfl).cell]; rfl) trivial ?_
    cases er with
    | true =>
      (conv => whnf)
      exact ⟨0, 0, n, es, a, c, rfl, by omega, by omega, by omega, by omega, by omega, st⟩
    | false =>
      (conv => whnf); refine vta_no Tryz.underlying127 (by intro ms h; cases h) node_z1 (by decide) ?_
      (conv => whnf); refine vta_no Tryz.underlying130 (by intro ms h; cases h) node_z2 (by decide) ?_
      (conv => whnf); refine vta_no Tryz.underlying132 (by intro ms h; cases h) node_z3 (by decide) ?_
      (conv => whnf); refine vta_yes Tryz.underlying163 (by intro ms h; cases h) ?_
      (conv => whnf); refine valloc _ [.nilIface, .nilIface] node_z4 rfl ?_
      intro x H1 hx hs1 hb1 ha1
      have st1 : StB B H0 H1 (pB 163 x [.nilIface, .nilIface] :: bdP bb false n a c es rest) := (st.box hx hs1 hb1 ha1).perm (List.perm_append_singleton _ _)
      (conv => whnf); refine stNB (cs := [nodeV r1, nodeV r2]) st1 0 rfl rfl (Nat.le_refl _) (by simp [nodeV_one]) fun H2 st2 => ?_
      rw [splice_all (show ([nodeV r1, nodeV r2]).length = ([.nilIface, .nilIface] : List Value).length from rfl)] at st2
      have st3 : StB B H0 H2 (bdP bb false n a c es (pB 163 x [nodeV r1, nodeV r2] :: rest)) := st2.pickN 3 [1, 2, 0] (by decide)
      (conv => whnf); refine bstate_vE st3 (by simp only [ReM.nodes] at hn; omega) fun H4 st4 => ?_
      (conv => whnf); refine fa fl163_0 ?_
      (conv => whnf); refine ld1 (v := nodeV r1) ct24 (by rw [(st4.blk 2 rfl).cell]; rfl) trivial ?_
      (conv => whnf); refine VCall.mk (ih1 st4 (by simp only [ReM.nodes] at hn; omega) (by simp only [ReM.nodes] at hl; omega)) ?_
      rintro _ G5 ⟨p5, q5, n5, es5, a5, c5, rfl, hp5, hq5, hn5, hm5, he5, sg5⟩
      (conv => whnf); refine fa fl163_1 ?_
      (conv => whnf); refine ld1 (v := nodeV r2) ct24 (by rw [(sg5.blk 2 rfl).cell]; rfl) trivial ?_
      (conv => whnf); refine VCall.mk (ih2 sg5 (by simp only [ReM.nodes] at hn; omega) (by simp only [ReM.nodes] at hl; omega)) ?_
      rintro _ G6 ⟨p6, q6, n6, es6, a6, c6, rfl, hp6, hq6, hn6, hm6, he6, sg6⟩
      simp only [ReM.nodes] at hn
      (conv => whnf); refine bstate_vE sg6 (by omega) fun H7 st7 => ?_
      (conv => whnf); refine bsil_vE st7 (by omega) (by omega) (by have hl2 := hl; simp [ReM.nodes] at hl2 ⊢; omega) fun b8 d8 H8 st8 => ?_
      (conv => whnf); refine bsil_vE st8 (by omega) (by omega) (by have hl2 := hl; simp [ReM.nodes] at hl2 ⊢; omega) fun b9 d9 H9 st9 => ?_
      (conv => whnf); refine bsil_vE st9 (by omega) (by omega) (by have hl2 := hl; simp [ReM.nodes] at hl2 ⊢; omega) fun b10 d10 H10 st10 => ?_
      (conv => whnf); refine bsil_vE st10 (by omega) (by omega) (by have hl2 := hl; simp [ReM.nodes] at hl2 ⊢; omega) fun b11 d11 H11 st11 => ?_
      (conv => whnf)
      refine ⟨n, n6, n6 + 1, es6 ++ [silE n p5] ++ [silE n p6] ++ [silE q5 n6] ++ [silE q6 n6], b11, d11, rfl, by omega, by omega, by omega, by simp only [ReM.nodes]; omega, by simp only [ReM.nodes, List.length_append, List.length_singleton]; omega, ?_⟩
      have e : (false || !(ReM.alt r1 r2).plain) = ((false || !r1.plain) || !r2.plain) := by simp [ReM.plain]
      rw [e]
      exact st11.pickN 3 [0, 1] (by decide)
  | star r1 ih1 =>
    intro H rest n a c es er st hn hl
    refine FnOk.of_vc Tryz.func44 rfl (Tryz.call44 _) ?_
    (conv => whnf); refine fa fl118_2 ?_
    (conv => whnf); refine ld1 (v := .int .i64 (erI er)) ct25 (by rw [(st.blk 0 rfl).cell]; rfl) trivial ?_
    cases er with
    | true =>
      (conv => whnf)
      exact ⟨0, 0, n, es, a, c, rfl, by omega, by omega, by omega, by omega, by omega, st⟩
    | false =>
      (conv => whnf); refine vta_no Tryz.underlying127 (by intro ms h; cases h) node_z1 (by decide) ?_
      (conv => whnf); refine vta_no Tryz.underlying130 (by intro ms h; cases h) node_z2 (by decide) ?_
      (conv => whnf); refine vta_no Tryz.underlying132 (by intro ms h; cases h) node_z3 (by decide) ?_
      (conv => whnf); refine vta_no Tryz.underlying163 (by intro ms h; cases h) node_z4 (by decide) ?_
      (conv => whnf); refine vta_yes Tryz.underlying165 (by intro ms h; cases h) ?_
      (conv => whnf); refine valloc _ [.nilIface] node_z5 rfl ?_
      intro x H1 hx hs1 hb1 ha1
      have st1 : StB B H0 H1 (pB 165 x [.nilIface] :: bdP bb false n a c es rest) := (st.box hx hs1 hb1 ha1).perm (List.perm_append_singleton _ _)
      (conv => whnf); refine stNB (cs := [nodeV r1]) st1 0 rfl rfl (Nat.le_refl _) (by simp [nodeV_one]) fun H2 st2 => ?_
      rw [splice_all (show ([nodeV r1]).length = ([.nilIface] : List Value).length from rfl)] at st2
      have st3 : StB B H0 H2 (bdP bb false n a c es (pB 165 x [nodeV r1] :: rest)) := st2.pickN 3 [1, 2, 0] (by decide)
      (conv => whnf); refine bstate_vE st3 (by simp only [ReM.nodes] at hn; omega) fun H4 st4 => ?_
      (conv => whnf); refine fa fl165_0 ?_
      (conv => whnf); refine ld1 (v := nodeV r1) ct24 (by rw [(st4.blk 2 rfl).cell]; rfl) trivial ?_
      (conv => whnf); refine VCall.mk (ih1 st4 (by simp only [ReM.nodes] at hn; omega) (by simp only [ReM.nodes] at hl; omega)) ?_
      rintro _ G5 ⟨p5, q5, n5, es5, a5, c5, rfl, hp5, hq5, hn5, hm5, he5, sg5⟩
      simp only [ReM.nodes] at hn
      (conv => whnf); refine bstate_vE sg5 (by omega) fun H7 st7 => ?_
      (conv => whnf); refine bsil_vE st7 (by omega) (by omega) (by have hl2 := hl; simp [ReM.nodes] at hl2 ⊢; omega) fun b8 d8 H8 st8 => ?_
      (conv => whnf); refine bsil_vE st8 (by omega) (by omega) (by have hl2 := hl; simp [ReM.nodes] at hl2 ⊢; omega) fun b9 d9 H9 st9 => ?_
      (conv => whnf); refine bsil_vE st9 (by omega) (by omega) (by have hl2 := hl; simp [ReM.nodes] at hl2 ⊢; omega) fun b10 d10 H10 st10 => ?_
      (conv => whnf); refine bsil_vE st10 (by omega) (by omega) (by have hl2 := hl; simp [ReM.nodes] at hl2 ⊢; omega) fun b11 d11 H11 st11 => ?_
      (conv => whnf)
      refine ⟨n, n5, n5 + 1, es5 ++ [silE n p5] ++ [silE n n5] ++ [silE q5 p5] ++ [silE q5 n5], b11, d11, rfl, by omega, by omega, by omega, by simp only [ReM.nodes]; omega, by simp only [ReM.nodes, List.length_append, List.length_singleton]; omega, ?_⟩
      exact st11.pickN 3 [0, 1] (by decide)
  | and_ r1 r2 ih1 ih2 =>
    intro H rest n a c es er st hn hl
    refine FnOk.of_vc Tryz.func44 rfl (Tryz.call44 _) ?_
    (conv => whnf); refine fa fl118_2 ?_
    (conv => whnf); refine ld1 (v := .int .i64 (erI er)) ct25 (by rw [(st.blk 0 rfl).cell]; rfl) trivial ?_
    cases er with
    | true =>
      (conv => whnf)
      exact ⟨0, 0, n, es, a, c, rfl, by omega, by omega, by omega, by omega, by omega, st⟩
    | false =>
      (conv => whnf); refine vta_no Tryz.underlying127 (by intro ms h; cases h) node_z1 (by decide) ?_
      (conv => whnf); refine vta_no Tryz.underlying130 (by intro ms h; cases h) node_z2 (by decide) ?_
      (conv => whnf); refine vta_no Tryz.underlying132 (by intro ms h; cases h) node_z3 (by decide) ?_
      (conv => whnf); refine vta_no Tryz.underlying163 (by intro ms h; cases h) node_z4 (by decide) ?_
      (conv => whnf); refine vta_no Tryz.underlying165 (by intro ms h; cases h) node_z5 (by decide) ?_
      (conv => whnf); refine vta_yes Tryz.underlying166 (by intro ms h; cases h) ?_
      (conv => whnf); refine vta_no Tryz.underlying167 (by intro ms h; cases h) node_z7 (by decide) ?_
      (conv => whnf); refine VCall.mk (bsplice_c (r := .and_ r1 r2) st) ?_
      rintro _ H4 ⟨rfl, st4⟩
      (conv => whnf)
      exact ⟨0, 0, n, es, a, c, rfl, by omega, by omega, by omega, by omega, by omega, st4⟩
  | minus r1 r2 ih1 ih2 =>
    intro H rest n a c es er st hn hl
    refine FnOk.of_vc Tryz.func44 rfl (Tryz.call44 _) ?_
    (conv => whnf); refine fa fl118_2 ?_
    (conv => whnf); refine ld1 (v := .int .i64 (erI er)) ct25 (by rw [(st.blk 0 rfl).cell]; rfl) trivial ?_
    cases er with
    | true =>
      (conv => whnf)
      exact ⟨0, 0, n, es, a, c, rfl, by omega, by omega, by omega, by omega, by omega, st⟩
    | false =>
      (conv => whnf); refine vta_no Tryz.underlying127 (by intro ms h; cases h) node_z1 (by decide) ?_
      (conv => whnf); refine vta_no Tryz.underlying130 (by intro ms h; cases h) node_z2 (by decide) ?_
      (conv => whnf); refine vta_no Tryz.underlying132 (by intro ms h; cases h) node_z3 (by decide) ?_
      (conv => whnf); refine vta_no Tryz.underlying163 (by intro ms h; cases h) node_z4 (by decide) ?_
      (conv => whnf); refine vta_no Tryz.underlying165 (by intro ms h; cases h) node_z5 (by decide) ?_
      (conv => whnf); refine vta_no Tryz.underlying166 (by intro ms h; cases h) node_z6 (by decide) ?_
      (conv => whnf); refine vta_yes Tryz.underlying167 (by intro ms h; cases h) ?_
      (conv => whnf); refine VCall.mk (bsplice_c (r := .minus r1 r2) st) ?_
      rintro _ H4 ⟨rfl, st4⟩
      (conv => whnf)
      exact ⟨0, 0, n, es, a, c, rfl, by omega, by omega, by omega, by omega, by omega, st4⟩
end Go.Proofs.YtlnmhfhdjnenoaaGreatDoor
/- The document's With, Build over trees without signs; the law NfaLarge: its walk. -/
set_option linter.unusedVariables false
set_option linter.unusedSimpArgs false
set_option maxRecDepth 100000
namespace Go.Proofs.YtlnmhfhdjnenoaaGreatDoor
open Go.VC
def OwnD (H H' : Heap) (r : ReM) (v : Value) : Prop := Agr (Old H) H H' ∧ ∃ ea ec, v = .tuple #[.agg (nfL (nfaOf r) (.slice ea (nfaOf r).edges.length ec)).toArray, .int .i64 0] ∧ SlO tEdD none_ H' H.size 106 (.slice ea (nfaOf r).edges.length ec) (nfaOf r).edges
abbrev nfZ : List Value := [.int .i64 0, .int .i64 0, .int .i64 0, .slice none 0 0]
set_option maxHeartbeats 4000000 in
theorem with_c {S : Nat → Prop} {H : Heap} {v : Value} {ns : List RnM} {root : Int} {r : ReM} {i : Nat} (hpl : r.plain = true) (hn : r.nodes ≤ 2000) (hS : ∀ k, S k → k < H.size) (hv : ReV S H v ns root) (ht : TreeAt ns r i) :
    FnOk Tryz.prog 21 #[v, .int .i64 (i : Int), .slice none 0 0] H fun u H' => OwnD H H' r u := by
  have hst := stM_nodes r
  have hin := bldM_in r hpl 0
  obtain ⟨hl, na, nc, rfl, h1⟩ := hv
  refine FnOk.of_vc Tryz.func21 rfl (Tryz.call21 _) ?_
  (conv => whnf); refine vbox (reL (.slice na ns.length nc) root) rfl ?_
  intro p H1 hp hs1 hb1 ha1
  have st1 := (St.nil H).box hp hs1 hb1 ha1
  (conv => whnf); refine valloc _ nfZ nfd_z rfl ?_
  intro y H2 hy hs2 hb2 ha2
  have st2 := st1.box hy hs2 hb2 ha2
  (conv => whnf); refine vbuildS Tryz.underlying42 rfl _ nfd_z (dbL 0 (.slice none 0 0)) rfl ?_
  (conv => whnf); refine vbox (dbL 0 (.slice none 0 0)) rfl ?_
  intro bb H3 hbb hs3 hb3 ha3
  have st3 : St H H3 (pB tDb bb (dbL 0 (.slice none 0 0)) :: pS tEdD 106 none 0 0 [] :: [pB tRe p (reL (.slice na ns.length nc) root), pB tDb y nfZ]) := ((st2.box hbb hs3 hb3 ha3).nils tEdD 106).pick [2, 3, 0, 1] (by decide)
  (conv => whnf); refine ldN (cs := reL (.slice na ns.length nc) root) ag32 ((st3.blk 2 rfl).cells fun j v hv => by rw [Nat.zero_add]; exact hv) trivial ?_
  have hv0 : ReV (Old H) H (.agg (reL (.slice na ns.length nc) root).toArray) ns root := ⟨hl, na, nc, rfl, h1.mono fun k hk => hS k hk⟩
  (conv => whnf); refine VCall.mk (partD_c (n := 0) (es := []) hv0 r hpl ht rfl st3 (by omega) (by simp only [List.length_nil]; omega)) ?_
  rintro _ H4 ⟨rfl, a4, c4, st4⟩
  rw [List.nil_append, Nat.zero_add] at st4
  have d2 : decide ((65536 : Int) < (stM r : Int)) = false := decide_eq_false (by omega)
  (conv => whnf); refine fa fl42_0 ?_
  (conv => whnf); refine ld1 (v := .int .i64 (stM r : Int)) ct3 (by rw [(st4.blk 0 rfl).cell]; rfl) trivial ?_
  (conv => whnf); rw [d2]
  (conv => whnf); refine fa fl42_1 ?_
  (conv => whnf); refine st1B st4 0 ct3 rfl (show 1 < 4 by decide) rfl fun H5 st5 => ?_
  (conv => whnf); refine fa fl42_2 ?_
  (conv => whnf); refine st1B st5 0 ct3 rfl (show 2 < 4 by decide) rfl fun H6 st6 => ?_
  replace st6 : St H H6 [pB tDb bb (nfL (nfaOf r) (.slice a4 (nfaOf r).edges.length c4)), pS tEdD 106 a4 (nfaOf r).edges.length c4 (nfaOf r).edges, pB tRe p (reL (.slice na ns.length nc) root), pB tDb y nfZ] := st6
  (conv => whnf); refine ldN (cs := nfL (nfaOf r) (.slice a4 (nfaOf r).edges.length c4)) ag42 ((st6.blk 0 rfl).cells fun j v hv => by rw [Nat.zero_add]; exact hv) trivial ?_
  (conv => whnf); refine stNB (cs := nfL (nfaOf r) (.slice a4 (nfaOf r).edges.length c4)) st6 3 rfl rfl (Nat.le_refl _) rfl fun H7 st7 => ?_
  rw [splice_all (show (nfL (nfaOf r) (.slice a4 (nfaOf r).edges.length c4)).length = nfZ.length from rfl)] at st7
  (conv => whnf); refine ldN (cs := nfL (nfaOf r) (.slice a4 (nfaOf r).edges.length c4)) ag42 ((st7.blk 3 rfl).cells fun j v hv => by rw [Nat.zero_add]; exact hv) trivial ?_
  (conv => whnf)
  exact ⟨st7.old, a4, c4, rfl, St.own st7 1 rfl⟩
theorem rsizeF_p {S : Nat → Prop} {H : Heap} {v : Value} {ns : List RnM} {r : ReM} {i : Nat} (hn : r.nodes ≤ 1000000000) (hS : ∀ k, S k → k < H.size) (hv : ReV S H v ns (i : Int)) (ht : TreeAt ns r i) :
    Pure Tryz.prog 37 #[v] H (.int .i64 (r.nodes : Int)) := by
  obtain ⟨hl, na, nc, rfl, h1⟩ := hv
  refine FnOk.of_vc Tryz.func37 rfl (Tryz.call37 _) ?_
  (conv => whnf); refine vbox (reL (.slice na ns.length nc) (i : Int)) rfl ?_
  intro p H1 hp hs1 hb1 ha1
  have st1 := (St.nil H).box hp hs1 hb1 ha1
  (conv => whnf); refine re_load hl (st1.blk 0 rfl) ag32 trivial (h1.frame (st1.old.mono hS)) fun v2 hv2 => ?_
  (conv => whnf); refine fa fl32_1 ?_
  (conv => whnf); refine ld1 (v := .int .i64 (i : Int)) ct3 (by rw [(st1.blk 0 rfl).cell]; rfl) trivial ?_
  (conv => whnf); refine pures (rsize_p r hn (fun k hk => st1.up (hS k hk)) hv2 ht) fun H2 ha2 => ?_
  have st2 := st1.call ha2
  (conv => whnf)
  exact ⟨rfl, st2.old⟩
set_option maxHeartbeats 4000000 in
theorem dbuild_c {S : Nat → Prop} {H : Heap} {v : Value} {ns : List RnM} {r : ReM} {i : Nat} (hpl : r.plain = true) (hn : r.nodes ≤ 2000) (hS : ∀ k, S k → k < H.size) (hv : ReV S H v ns (i : Int)) (ht : TreeAt ns r i) :
    FnOk Tryz.prog 10 #[v] H fun u H' => OwnD H H' r u := by
  obtain ⟨hl, na, nc, rfl, h1⟩ := hv
  refine FnOk.of_vc Tryz.func10 rfl (Tryz.call10 _) ?_
  (conv => whnf); refine vbox (reL (.slice na ns.length nc) (i : Int)) rfl ?_
  intro p H1 hp hs1 hb1 ha1
  have st1 := (St.nil H).box hp hs1 hb1 ha1
  (conv => whnf); refine valloc _ nfZ nfd_z rfl ?_
  intro y H2 hy hs2 hb2 ha2
  have st2 := st1.box hy hs2 hb2 ha2
  (conv => whnf); refine re_load hl (st2.blk 0 rfl) ag32 trivial (h1.frame (st2.old.mono hS)) fun v2 hv2 => ?_
  (conv => whnf); refine pures (rsizeF_p (by omega) (fun k hk => st2.up (hS k hk)) hv2 ht) fun H3 ha3 => ?_
  have st3 := st2.call ha3
  have d1 : decide ((2000 : Int) < (r.nodes : Int)) = false := decide_eq_false (by omega)
  (conv => whnf); rw [d1]
  (conv => whnf); refine re_load hl (st3.blk 0 rfl) ag32 trivial (h1.frame (st3.old.mono hS)) fun v3 hv3 => ?_
  (conv => whnf); refine fa fl32_1 ?_
  (conv => whnf); refine ld1 (v := .int .i64 (i : Int)) ct3 (by rw [(st3.blk 0 rfl).cell]; rfl) trivial ?_
  (conv => whnf); refine pures (below_p r hpl (fun k hk => st3.up (hS k hk)) hv3 ht) fun H4 ha4 => ?_
  have st4 := st3.call ha4
  (conv => whnf); refine re_load hl (st4.blk 0 rfl) ag32 trivial (h1.frame (st4.old.mono hS)) fun v4 hv4 => ?_
  (conv => whnf); refine fa fl32_1 ?_
  (conv => whnf); refine ld1 (v := .int .i64 (i : Int)) ct3 (by rw [(st4.blk 0 rfl).cell]; rfl) trivial ?_
  (conv => whnf); refine VCall.mk (with_c hpl hn (fun k hk => st4.up (hS k hk)) hv4 ht) ?_
  rintro _ H5 ⟨ha5, ea, ec, rfl, hown⟩
  obtain ⟨ea', ec', e5, st5⟩ := st4.got ha5 hown
  injection e5 with e51 e52 e53
  subst e51; subst e53
  (conv => whnf); refine stNB (cs := nfL (nfaOf r) (.slice ea (nfaOf r).edges.length ec)) st5 1 rfl rfl (Nat.le_refl _) rfl fun H7 st7 => ?_
  rw [splice_all (show (nfL (nfaOf r) (.slice ea (nfaOf r).edges.length ec)).length = nfZ.length from rfl)] at st7
  (conv => whnf); refine ldN (cs := nfL (nfaOf r) (.slice ea (nfaOf r).edges.length ec)) ag42 ((st7.blk 1 rfl).cells fun j v hv => by rw [Nat.zero_add]; exact hv) trivial ?_
  (conv => whnf)
  exact ⟨st7.old, ea, ec, rfl, St.own st7 2 rfl⟩
theorem nf_rng {r : ReM} (hpl : r.plain = true) (hn : r.nodes ≤ 2000) : (nfaOf r).Rng ∧ (nfaOf r).edges.length ≤ 1048576 := by
  have hst := stM_nodes r
  have hin := bldM_in r hpl 0
  have hlen := bldM_len r hpl 0
  refine ⟨⟨inI64 (by omega), inI64 (by omega), inI64 (by omega)⟩, ?_⟩
  show (bldM r 0).2.2.length ≤ _
  omega
end Go.Proofs.YtlnmhfhdjnenoaaGreatDoor
/- nfa.Build and louperef04.Build over any tree: the walks. -/
set_option linter.unusedVariables false
set_option linter.unusedSimpArgs false
set_option maxRecDepth 100000
namespace Go.Proofs.YtlnmhfhdjnenoaaGreatDoor
open Go.VC
set_option maxHeartbeats 4000000 in
theorem buildWithE_c (r : ReM) (hpl : r.plain = false) (hn : r.nodes ≤ 2000) (H : Heap) : FnOk Tryz.prog 16 #[nodeV r, .nilFunc] H fun v H' => Agr (Old H) H H' ∧ v = .tuple #[zeroNf, .int .i64 30] := by
  rw [nodeV_eq]
  refine FnOk.of_vc Tryz.func16 rfl (Tryz.call16 _) ?_
  (conv => whnf); refine valloc _ [.int .i64 0, .int .i64 0, .int .i64 0, .slice none 0 0] nfa_z rfl ?_
  intro y H1 hy hs1 hb1 ha1
  have st1 := (St.nil H).box hy hs1 hb1 ha1
  (conv => whnf); refine ifneq Tryz.underlying24 ?_
  (conv => whnf); refine VInv.mk (sizeF r) #[nodeP r] (size_m r) (size_p r (by omega) H1) ?_
  rintro _ H2 ⟨rfl, ha2⟩
  have st2 := st1.call ha2
  have d1 : decide ((2000 : Int) < (r.nodes : Int)) = false := decide_eq_false (by omega)
  (conv => whnf); rw [d1]
  (conv => whnf); refine vbuildS Tryz.underlying118 rfl _ bd_z (bdE false 0 (.slice none 0 0) .nilFunc) (by kernel_rfl) ?_
  (conv => whnf); refine vbox (bdE false 0 (.slice none 0 0) .nilFunc) rfl ?_
  intro bb H3 hbb hs3 hb3 ha3
  have st3 : St H H3 (bdP bb false 0 none 0 [] [pB 37 y [.int .i64 0, .int .i64 0, .int .i64 0, .slice none 0 0]]) := ((st2.box hbb hs3 hb3 ha3).nils tEd 104).pick [1, 2, 0] (by decide)
  have hp := partW_c r st3 (by omega) (by simp only [List.length_nil]; omega)
  rw [nodeV_eq] at hp
  (conv => whnf); refine VCall.mk hp ?_
  rintro _ H4 ⟨p, q, n', es', a4, c4, rfl, -, -, -, -, -, st4⟩
  rw [hpl] at st4
  (conv => whnf); refine fa fl118_0 ?_
  (conv => whnf); refine fa fl37_1 ?_
  (conv => whnf); refine st1B st4 0 ct3 rfl (show 1 < 6 by decide) rfl fun H5 st5 => ?_
  (conv => whnf); refine fa fl118_0 ?_
  (conv => whnf); refine fa fl37_2 ?_
  (conv => whnf); refine st1B st5 0 ct3 rfl (show 2 < 6 by decide) rfl fun H6 st6 => ?_
  (conv => whnf); refine fa fl118_2 ?_
  (conv => whnf); refine ld1 (v := .int .i64 30) ct25 (by rw [(st6.blk 0 rfl).cell]; rfl) trivial ?_
  have hne : bb ≠ y := (st6.blk 0 rfl).ne (st6.blk 2 rfl) (by decide)
  (conv => whnf); refine VDraw.held (fun k => k = bb) 7 (sq [0,1,2,3,4] (.f 5 (sq [6] .e))) rfl (by kernel_rfl) ?_
  (conv => whnf); refine vbuildS Tryz.underlying37 rfl _ nfa_z [.int .i64 0, .int .i64 0, .int .i64 0, .slice none 0 0] rfl ?_
  (conv => whnf); refine fa fl118_2 ?_
  (conv => whnf); refine ld1 (v := .int .i64 30) ct25 (by rw [(st6.blk 0 rfl).cell]; rfl) rfl ?_
  (conv => whnf); refine stNBa (cs := [.int .i64 0, .int .i64 0, .int .i64 0, .slice none 0 0]) st6 2 rfl rfl (Nat.le_refl _) rfl fun H7 st7 ja js => ?_
  refine ⟨ja.mono fun k hk => by rw [show k = bb from hk]; exact hne, ?_⟩
  (conv => whnf); refine ldN (cs := [.int .i64 0, .int .i64 0, .int .i64 0, .slice none 0 0]) ag37 ((st7.blk 2 rfl).cells fun j v hv => by rw [Nat.zero_add]; exact hv) trivial ?_
  (conv => whnf)
  exact ⟨st7.old, rfl⟩
set_option maxHeartbeats 4000000 in
theorem buildE_c (r : ReM) (hpl : r.plain = false) (hn : r.nodes ≤ 2000) (H : Heap) : FnOk Tryz.prog 9 #[nodeV r] H fun v H' => Agr (Old H) H H' ∧ v = .tuple #[zeroNf, .int .i64 30] := by
  refine FnOk.of_vc Tryz.func9 rfl (Tryz.call9 _) ?_
  (conv => whnf); refine valloc _ [.int .i64 0, .int .i64 0, .int .i64 0, .slice none 0 0] nfa_z rfl ?_
  intro y H1 hy hs1 hb1 ha1
  have st1 := (St.nil H).box hy hs1 hb1 ha1
  (conv => whnf); refine VCall.mk (buildWithE_c r hpl hn H1) ?_
  rintro v H2 ⟨ha2, rfl⟩
  have st2 := st1.call ha2
  (conv => whnf); refine stNB (cs := [.int .i64 0, .int .i64 0, .int .i64 0, .slice none 0 0]) st2 0 rfl rfl (Nat.le_refl _) rfl fun H3 st3 => ?_
  (conv => whnf); refine ldN (cs := [.int .i64 0, .int .i64 0, .int .i64 0, .slice none 0 0]) ag37 ((st3.blk 0 rfl).cells fun j v hv => by rw [Nat.zero_add]; exact hv) trivial ?_
  (conv => whnf)
  exact ⟨st3.old, rfl⟩
set_option maxHeartbeats 8000000 in
theorem belowE_p : ∀ (r : ReM) {S : Nat → Prop} {H : Heap} {v : Value} {ns : List RnM} {root : Int} {i : Nat}, (∀ k, S k → k < H.size) → ReV S H v ns root → TreeAt ns r i →
    Pure Tryz.prog 38 #[v, .int .i64 (i : Int)] H (.bool r.plain) := fun r => by
  induction r with
  | eps =>
    intro S H v ns root i hS hv ht
    obtain ⟨d, hd, hop⟩ := ht
    obtain ⟨hl, na, nc, rfl, h1⟩ := hv
    refine FnOk.of_vc Tryz.func38 rfl (Tryz.call38 _) ?_
    (conv => whnf); refine vbox (reL (.slice na ns.length nc) root) rfl ?_
    intro p H1 hp hs1 hb1 ha1
    have st1 := (St.nil H).box hp hs1 hb1 ha1
    (conv => whnf); refine fa fl32_0 ?_
    (conv => whnf); refine ld1 (v := .slice na ns.length nc) ct30 (by rw [(st1.blk 0 rfl).cell]; rfl) trivial ?_
    (conv => whnf); refine ixr (i := i) sl30 (h1.frame (st1.old.mono hS)) hd rfl ?_
    rintro b2 o2 c2 hS2 hc2 ⟨rfl, hok⟩
    (conv => whnf); refine ldN (cs := rnL d) (by rw [rnL_len]; exact ag94) hc2 trivial ?_
    (conv => whnf); refine valloc _ rnZ rn_z rfl ?_
    intro x H3 hx hs3 hb3 ha3
    have st3 := st1.box hx hs3 hb3 ha3
    (conv => whnf); refine stNB (cs := rnL d) st3 1 (by rw [rnL_len]; rfl) rfl (by rw [rnL_len, rnZ_len]; decide) (rn_ones d) fun H4 st4 => ?_
    rw [splice_all (show (rnL d).length = rnZ.length by rw [rnL_len, rnZ_len])] at st4
    have hb4 := st4.blk 1 rfl
    have hp4 := st4.blk 0 rfl
    (conv => whnf); refine fa fl94_0 ?_
    (conv => whnf); refine ld1 (v := .int .i64 d.op) ct3 (by rw [hb4.cell]; exact rn_op d) trivial ?_
    (conv => whnf); rw [hop]
    (conv => whnf); try (refine VSeq.run ?_)
    (conv => whnf); try (refine VSeq.run ?_)
    (conv => whnf)
    exact ⟨rfl, st4.old⟩
  | cls s =>
    intro S H v ns root i hS hv ht
    obtain ⟨d, hd, hop, hset⟩ := ht
    obtain ⟨hl, na, nc, rfl, h1⟩ := hv
    refine FnOk.of_vc Tryz.func38 rfl (Tryz.call38 _) ?_
    (conv => whnf); refine vbox (reL (.slice na ns.length nc) root) rfl ?_
    intro p H1 hp hs1 hb1 ha1
    have st1 := (St.nil H).box hp hs1 hb1 ha1
    (conv => whnf); refine fa fl32_0 ?_
    (conv => whnf); refine ld1 (v := .slice na ns.length nc) ct30 (by rw [(st1.blk 0 rfl).cell]; rfl) trivial ?_
    (conv => whnf); refine ixr (i := i) sl30 (h1.frame (st1.old.mono hS)) hd rfl ?_
    rintro b2 o2 c2 hS2 hc2 ⟨rfl, hok⟩
    (conv => whnf); refine ldN (cs := rnL d) (by rw [rnL_len]; exact ag94) hc2 trivial ?_
    (conv => whnf); refine valloc _ rnZ rn_z rfl ?_
    intro x H3 hx hs3 hb3 ha3
    have st3 := st1.box hx hs3 hb3 ha3
    (conv => whnf); refine stNB (cs := rnL d) st3 1 (by rw [rnL_len]; rfl) rfl (by rw [rnL_len, rnZ_len]; decide) (rn_ones d) fun H4 st4 => ?_
    rw [splice_all (show (rnL d).length = rnZ.length by rw [rnL_len, rnZ_len])] at st4
    have hb4 := st4.blk 1 rfl
    have hp4 := st4.blk 0 rfl
    (conv => whnf); refine fa fl94_0 ?_
    (conv => whnf); refine ld1 (v := .int .i64 d.op) ct3 (by rw [hb4.cell]; exact rn_op d) trivial ?_
    (conv => whnf); rw [hop]
    (conv => whnf); try (refine VSeq.run ?_)
    (conv => whnf); try (refine VSeq.run ?_)
    (conv => whnf)
    exact ⟨rfl, st4.old⟩
  | cat a b iha ihb =>
    intro S H v ns root i hS hv ht
    obtain ⟨d, j, k, hd, hop, hl1, hl2, hta, htb⟩ := ht
    obtain ⟨hl, na, nc, rfl, h1⟩ := hv
    refine FnOk.of_vc Tryz.func38 rfl (Tryz.call38 _) ?_
    (conv => whnf); refine vbox (reL (.slice na ns.length nc) root) rfl ?_
    intro p H1 hp hs1 hb1 ha1
    have st1 := (St.nil H).box hp hs1 hb1 ha1
    (conv => whnf); refine fa fl32_0 ?_
    (conv => whnf); refine ld1 (v := .slice na ns.length nc) ct30 (by rw [(st1.blk 0 rfl).cell]; rfl) trivial ?_
    (conv => whnf); refine ixr (i := i) sl30 (h1.frame (st1.old.mono hS)) hd rfl ?_
    rintro b2 o2 c2 hS2 hc2 ⟨rfl, hok⟩
    (conv => whnf); refine ldN (cs := rnL d) (by rw [rnL_len]; exact ag94) hc2 trivial ?_
    (conv => whnf); refine valloc _ rnZ rn_z rfl ?_
    intro x H3 hx hs3 hb3 ha3
    have st3 := st1.box hx hs3 hb3 ha3
    (conv => whnf); refine stNB (cs := rnL d) st3 1 (by rw [rnL_len]; rfl) rfl (by rw [rnL_len, rnZ_len]; decide) (rn_ones d) fun H4 st4 => ?_
    rw [splice_all (show (rnL d).length = rnZ.length by rw [rnL_len, rnZ_len])] at st4
    have hb4 := st4.blk 1 rfl
    have hp4 := st4.blk 0 rfl
    (conv => whnf); refine fa fl94_0 ?_
    (conv => whnf); refine ld1 (v := .int .i64 d.op) ct3 (by rw [hb4.cell]; exact rn_op d) trivial ?_
    (conv => whnf); rw [hop]
    (conv => whnf); try (refine VSeq.run ?_)
    (conv => whnf); try (refine VSeq.run ?_)
    (conv => whnf)
    (conv => whnf); refine re_load hl (st4.blk 0 rfl) ag32 trivial (h1.frame (st4.old.mono hS)) fun v5 hv5 => ?_
    (conv => whnf); refine fa fl94_2 ?_
    (conv => whnf); refine ld1 (v := .int .i64 d.l) ct3 (by rw [hb4.cell, Nat.zero_add]; exact rn_l d) trivial ?_
    (conv => whnf); rw [hl1]
    (conv => whnf); refine pures (iha (fun k hk => st4.up (hS k hk)) hv5 hta) fun H5 ha5 => ?_
    have st5 := st4.call ha5
    cases hpa : a.plain with
    | false =>
      (conv => whnf)
      exact ⟨by simp [ReM.plain, hpa], st5.old⟩
    | true =>
      (conv => whnf); refine re_load hl (st5.blk 0 rfl) ag32 trivial (h1.frame (st5.old.mono hS)) fun v6 hv6 => ?_
      (conv => whnf); refine fa fl94_3 ?_
      (conv => whnf); refine ld1 (v := .int .i64 d.r) ct3 (by rw [(st5.blk 1 rfl).cell, Nat.zero_add]; exact rn_r d) trivial ?_
      (conv => whnf); rw [hl2]
      (conv => whnf); refine pures (ihb (fun k hk => st5.up (hS k hk)) hv6 htb) fun H6 ha6 => ?_
      have st6 := st5.call ha6
      (conv => whnf)
      exact ⟨by simp [ReM.plain, hpa], st6.old⟩
  | alt a b iha ihb =>
    intro S H v ns root i hS hv ht
    obtain ⟨d, j, k, hd, hop, hl1, hl2, hta, htb⟩ := ht
    obtain ⟨hl, na, nc, rfl, h1⟩ := hv
    refine FnOk.of_vc Tryz.func38 rfl (Tryz.call38 _) ?_
    (conv => whnf); refine vbox (reL (.slice na ns.length nc) root) rfl ?_
    intro p H1 hp hs1 hb1 ha1
    have st1 := (St.nil H).box hp hs1 hb1 ha1
    (conv => whnf); refine fa fl32_0 ?_
    (conv => whnf); refine ld1 (v := .slice na ns.length nc) ct30 (by rw [(st1.blk 0 rfl).cell]; rfl) trivial ?_
    (conv => whnf); refine ixr (i := i) sl30 (h1.frame (st1.old.mono hS)) hd rfl ?_
    rintro b2 o2 c2 hS2 hc2 ⟨rfl, hok⟩
    (conv => whnf); refine ldN (cs := rnL d) (by rw [rnL_len]; exact ag94) hc2 trivial ?_
    (conv => whnf); refine valloc _ rnZ rn_z rfl ?_
    intro x H3 hx hs3 hb3 ha3
    have st3 := st1.box hx hs3 hb3 ha3
    (conv => whnf); refine stNB (cs := rnL d) st3 1 (by rw [rnL_len]; rfl) rfl (by rw [rnL_len, rnZ_len]; decide) (rn_ones d) fun H4 st4 => ?_
    rw [splice_all (show (rnL d).length = rnZ.length by rw [rnL_len, rnZ_len])] at st4
    have hb4 := st4.blk 1 rfl
    have hp4 := st4.blk 0 rfl
    (conv => whnf); refine fa fl94_0 ?_
    (conv => whnf); refine ld1 (v := .int .i64 d.op) ct3 (by rw [hb4.cell]; exact rn_op d) trivial ?_
    (conv => whnf); rw [hop]
    (conv => whnf); try (refine VSeq.run ?_)
    (conv => whnf); try (refine VSeq.run ?_)
    (conv => whnf)
    (conv => whnf); refine re_load hl (st4.blk 0 rfl) ag32 trivial (h1.frame (st4.old.mono hS)) fun v5 hv5 => ?_
    (conv => whnf); refine fa fl94_2 ?_
    (conv => whnf); refine ld1 (v := .int .i64 d.l) ct3 (by rw [hb4.cell, Nat.zero_add]; exact rn_l d) trivial ?_
    (conv => whnf); rw [hl1]
    (conv => whnf); refine pures (iha (fun k hk => st4.up (hS k hk)) hv5 hta) fun H5 ha5 => ?_
    have st5 := st4.call ha5
    cases hpa : a.plain with
    | false =>
      (conv => whnf)
      exact ⟨by simp [ReM.plain, hpa], st5.old⟩
    | true =>
      (conv => whnf); refine re_load hl (st5.blk 0 rfl) ag32 trivial (h1.frame (st5.old.mono hS)) fun v6 hv6 => ?_
      (conv => whnf); refine fa fl94_3 ?_
      (conv => whnf); refine ld1 (v := .int .i64 d.r) ct3 (by rw [(st5.blk 1 rfl).cell, Nat.zero_add]; exact rn_r d) trivial ?_
      (conv => whnf); rw [hl2]
      (conv => whnf); refine pures (ihb (fun k hk => st5.up (hS k hk)) hv6 htb) fun H6 ha6 => ?_
      have st6 := st5.call ha6
      (conv => whnf)
      exact ⟨by simp [ReM.plain, hpa], st6.old⟩
  | star a iha =>
    intro S H v ns root i hS hv ht
    obtain ⟨d, j, hd, hop, hl1, hta⟩ := ht
    obtain ⟨hl, na, nc, rfl, h1⟩ := hv
    refine FnOk.of_vc Tryz.func38 rfl (Tryz.call38 _) ?_
    (conv => whnf); refine vbox (reL (.slice na ns.length nc) root) rfl ?_
    intro p H1 hp hs1 hb1 ha1
    have st1 := (St.nil H).box hp hs1 hb1 ha1
    (conv => whnf); refine fa fl32_0 ?_
    (conv => whnf); refine ld1 (v := .slice na ns.length nc) ct30 (by rw [(st1.blk 0 rfl).cell]; rfl) trivial ?_
    (conv => whnf); refine ixr (i := i) sl30 (h1.frame (st1.old.mono hS)) hd rfl ?_
    rintro b2 o2 c2 hS2 hc2 ⟨rfl, hok⟩
    (conv => whnf); refine ldN (cs := rnL d) (by rw [rnL_len]; exact ag94) hc2 trivial ?_
    (conv => whnf); refine valloc _ rnZ rn_z rfl ?_
    intro x H3 hx hs3 hb3 ha3
    have st3 := st1.box hx hs3 hb3 ha3
    (conv => whnf); refine stNB (cs := rnL d) st3 1 (by rw [rnL_len]; rfl) rfl (by rw [rnL_len, rnZ_len]; decide) (rn_ones d) fun H4 st4 => ?_
    rw [splice_all (show (rnL d).length = rnZ.length by rw [rnL_len, rnZ_len])] at st4
    have hb4 := st4.blk 1 rfl
    have hp4 := st4.blk 0 rfl
    (conv => whnf); refine fa fl94_0 ?_
    (conv => whnf); refine ld1 (v := .int .i64 d.op) ct3 (by rw [hb4.cell]; exact rn_op d) trivial ?_
    (conv => whnf); rw [hop]
    (conv => whnf); try (refine VSeq.run ?_)
    (conv => whnf); try (refine VSeq.run ?_)
    (conv => whnf)
    (conv => whnf); refine re_load hl (st4.blk 0 rfl) ag32 trivial (h1.frame (st4.old.mono hS)) fun v5 hv5 => ?_
    (conv => whnf); refine fa fl94_2 ?_
    (conv => whnf); refine ld1 (v := .int .i64 d.l) ct3 (by rw [hb4.cell, Nat.zero_add]; exact rn_l d) trivial ?_
    (conv => whnf); rw [hl1]
    (conv => whnf); refine pures (iha (fun k hk => st4.up (hS k hk)) hv5 hta) fun H5 ha5 => ?_
    have st5 := st4.call ha5
    (conv => whnf)
    exact ⟨rfl, st5.old⟩
  | and_ a b iha ihb =>
    intro S H v ns root i hS hv ht
    obtain ⟨d, j, k, hd, hop, hl1, hl2, hta, htb⟩ := ht
    obtain ⟨hl, na, nc, rfl, h1⟩ := hv
    refine FnOk.of_vc Tryz.func38 rfl (Tryz.call38 _) ?_
    (conv => whnf); refine vbox (reL (.slice na ns.length nc) root) rfl ?_
    intro p H1 hp hs1 hb1 ha1
    have st1 := (St.nil H).box hp hs1 hb1 ha1
    (conv => whnf); refine fa fl32_0 ?_
    (conv => whnf); refine ld1 (v := .slice na ns.length nc) ct30 (by rw [(st1.blk 0 rfl).cell]; rfl) trivial ?_
    (conv => whnf); refine ixr (i := i) sl30 (h1.frame (st1.old.mono hS)) hd rfl ?_
    rintro b2 o2 c2 hS2 hc2 ⟨rfl, hok⟩
    (conv => whnf); refine ldN (cs := rnL d) (by rw [rnL_len]; exact ag94) hc2 trivial ?_
    (conv => whnf); refine valloc _ rnZ rn_z rfl ?_
    intro x H3 hx hs3 hb3 ha3
    have st3 := st1.box hx hs3 hb3 ha3
    (conv => whnf); refine stNB (cs := rnL d) st3 1 (by rw [rnL_len]; rfl) rfl (by rw [rnL_len, rnZ_len]; decide) (rn_ones d) fun H4 st4 => ?_
    rw [splice_all (show (rnL d).length = rnZ.length by rw [rnL_len, rnZ_len])] at st4
    have hb4 := st4.blk 1 rfl
    have hp4 := st4.blk 0 rfl
    (conv => whnf); refine fa fl94_0 ?_
    (conv => whnf); refine ld1 (v := .int .i64 d.op) ct3 (by rw [hb4.cell]; exact rn_op d) trivial ?_
    (conv => whnf); rw [hop]
    (conv => whnf); try (refine VSeq.run ?_)
    (conv => whnf); try (refine VSeq.run ?_)
    (conv => whnf)
    exact ⟨rfl, st4.old⟩
  | minus a b iha ihb =>
    intro S H v ns root i hS hv ht
    obtain ⟨d, j, k, hd, hop, hl1, hl2, hta, htb⟩ := ht
    obtain ⟨hl, na, nc, rfl, h1⟩ := hv
    refine FnOk.of_vc Tryz.func38 rfl (Tryz.call38 _) ?_
    (conv => whnf); refine vbox (reL (.slice na ns.length nc) root) rfl ?_
    intro p H1 hp hs1 hb1 ha1
    have st1 := (St.nil H).box hp hs1 hb1 ha1
    (conv => whnf); refine fa fl32_0 ?_
    (conv => whnf); refine ld1 (v := .slice na ns.length nc) ct30 (by rw [(st1.blk 0 rfl).cell]; rfl) trivial ?_
    (conv => whnf); refine ixr (i := i) sl30 (h1.frame (st1.old.mono hS)) hd rfl ?_
    rintro b2 o2 c2 hS2 hc2 ⟨rfl, hok⟩
    (conv => whnf); refine ldN (cs := rnL d) (by rw [rnL_len]; exact ag94) hc2 trivial ?_
    (conv => whnf); refine valloc _ rnZ rn_z rfl ?_
    intro x H3 hx hs3 hb3 ha3
    have st3 := st1.box hx hs3 hb3 ha3
    (conv => whnf); refine stNB (cs := rnL d) st3 1 (by rw [rnL_len]; rfl) rfl (by rw [rnL_len, rnZ_len]; decide) (rn_ones d) fun H4 st4 => ?_
    rw [splice_all (show (rnL d).length = rnZ.length by rw [rnL_len, rnZ_len])] at st4
    have hb4 := st4.blk 1 rfl
    have hp4 := st4.blk 0 rfl
    (conv => whnf); refine fa fl94_0 ?_
    (conv => whnf); refine ld1 (v := .int .i64 d.op) ct3 (by rw [hb4.cell]; exact rn_op d) trivial ?_
    (conv => whnf); rw [hop]
    (conv => whnf); try (refine VSeq.run ?_)
    (conv => whnf); try (refine VSeq.run ?_)
    (conv => whnf)
    exact ⟨rfl, st4.old⟩
set_option maxHeartbeats 4000000 in
theorem dbuildE_c {S : Nat → Prop} {H : Heap} {v : Value} {ns : List RnM} {r : ReM} {i : Nat} (hpl : r.plain = false) (hn : r.nodes ≤ 2000) (hS : ∀ k, S k → k < H.size) (hv : ReV S H v ns (i : Int)) (ht : TreeAt ns r i) :
    FnOk Tryz.prog 10 #[v] H fun u H' => Agr (Old H) H H' ∧ u = .tuple #[.agg nfZ.toArray, .int .i64 30] := by
  obtain ⟨hl, na, nc, rfl, h1⟩ := hv
  refine FnOk.of_vc Tryz.func10 rfl (Tryz.call10 _) ?_
  (conv => whnf); refine vbox (reL (.slice na ns.length nc) (i : Int)) rfl ?_
  intro p H1 hp hs1 hb1 ha1
  have st1 := (St.nil H).box hp hs1 hb1 ha1
  (conv => whnf); refine valloc _ nfZ nfd_z rfl ?_
  intro y H2 hy hs2 hb2 ha2
  have st2 := st1.box hy hs2 hb2 ha2
  (conv => whnf); refine re_load hl (st2.blk 0 rfl) ag32 trivial (h1.frame (st2.old.mono hS)) fun v2 hv2 => ?_
  (conv => whnf); refine pures (rsizeF_p (by omega) (fun k hk => st2.up (hS k hk)) hv2 ht) fun H3 ha3 => ?_
  have st3 := st2.call ha3
  have d1 : decide ((2000 : Int) < (r.nodes : Int)) = false := decide_eq_false (by omega)
  (conv => whnf); rw [d1]
  (conv => whnf); refine re_load hl (st3.blk 0 rfl) ag32 trivial (h1.frame (st3.old.mono hS)) fun v3 hv3 => ?_
  (conv => whnf); refine fa fl32_1 ?_
  (conv => whnf); refine ld1 (v := .int .i64 (i : Int)) ct3 (by rw [(st3.blk 0 rfl).cell]; rfl) trivial ?_
  (conv => whnf); refine pures (belowE_p r (fun k hk => st3.up (hS k hk)) hv3 ht) fun H4 ha4 => ?_
  have st4 := st3.call ha4
  rw [hpl]
  (conv => whnf); refine vbuildS Tryz.underlying42 rfl _ nfd_z nfZ rfl ?_
  (conv => whnf); refine stNB (cs := nfZ) st4 1 rfl rfl (Nat.le_refl _) rfl fun H7 st7 => ?_
  rw [splice_all (show nfZ.length = nfZ.length from rfl)] at st7
  (conv => whnf); refine ldN (cs := nfZ) ag42 ((st7.blk 1 rfl).cells fun j v hv => by rw [Nat.zero_add]; exact hv) trivial ?_
  (conv => whnf)
  exact ⟨st7.old, rfl⟩
end Go.Proofs.YtlnmhfhdjnenoaaGreatDoor
/- The law NfaBuilds: its walk. -/
set_option linter.unusedVariables false
set_option linter.unusedSimpArgs false
set_option maxRecDepth 100000
namespace Go.Proofs.YtlnmhfhdjnenoaaGreatDoor
open Go.VC Go.Lib
def nf0 : NfM := ⟨0, 0, 0, []⟩
theorem nf0_rng : nf0.Rng := ⟨inI64 (x := 0) (by decide), inI64 (x := 0) (by decide), inI64 (x := 0) (by decide)⟩
theorem fi_z : (Tryz.prog.info? 27).bind (·.zero) = some (.agg (fiL 0 0).toArray) := by kernel_rfl
theorem ld_fi {H : Heap} {b c : Nat} {p : Int} (h : Blk H b 27 (fiL c p)) : Cells H b 0 (fiL c p) := h.cells (fun j v hv => by rw [Nat.zero_add]; exact hv)
set_option maxHeartbeats 16000000 in
theorem nfaBuilds_p (s : ByteArray) (H : Heap) (hE : EscH H) : Pure Tryz.prog 3 #[.string s] H (.bool true) := by
  refine FnOk.of_vc Tryz.func3 rfl (Tryz.call3 _) ?_
  (conv => whnf); refine pures (speaks04_p H) fun H1 ha1 => ?_
  have st1 := (St.nil H).call ha1
  (conv => whnf); refine VCall.mk (parse_c (t := s) (esc_agr hE hE.2 st1.old)) ?_
  rintro v H2 ⟨ha2, hPa⟩
  have st2 := st1.call ha2
  have hOk := parseM_ok s
  unfold PaAns at hPa
  cases hpm : parseM s with
  | inl e =>
    obtain ⟨c, p⟩ := e
    rw [hpm] at hPa hOk
    obtain ⟨k1, k2, k3, k4⟩ : ErOk s c p := hOk
    replace hPa : v = .tuple #[.nilIface, .agg (fiL c p).toArray] := hPa
    subst hPa
    (conv => whnf); refine valloc (.agg (fiL 0 0).toArray) (fiL 0 0) fi_z rfl ?_
    intro q4 H3 hq3 hs3 hb3 ha3
    have st3 := st2.box hq3 hs3 hb3 ha3
    (conv => whnf); refine stNB (cs := fiL c p) st3 0 rfl rfl (Nat.le_refl _) rfl fun H4 st4 => ?_
    have e4 : splice (fiL 0 0) 0 (fiL c p) = fiL c p := splAll rfl
    rw [e4] at st4
    (conv => whnf); refine VCall.mk (dparse_c s H4) ?_
    rintro v5 H5 ⟨ha5, hPd⟩
    have st5 := st4.call ha5
    unfold PdAns at hPd
    rw [hpm] at hPd
    replace hPd : v5 = .tuple #[.agg reZ.toArray, .int .i64 (c : Int), .int .i64 p] := hPd
    subst hPd
    (conv => whnf); refine valloc _ reZ re_z rfl ?_
    intro q5 H6 hq6 hs6 hb6 ha6
    have st6 := st5.box hq6 hs6 hb6 ha6
    (conv => whnf); refine stNB (cs := reZ) st6 1 rfl rfl (Nat.le_refl _) rfl fun H7 st7 => ?_
    (conv => whnf); refine ldN (cs := fiL c p) ag27 (ld_fi (st7.blk 0 rfl)) trivial ?_
    (conv => whnf); refine vbuildS Tryz.underlying27 rfl _ fi_z (fiL 0 0) rfl ?_
    have hple := parseM_pl hpm
    have hpr : inK .i64 p := num_in (by unfold NumOk; omega)
    (conv => whnf); refine fi_eq (c := c) (p := p) (c' := 0) (p' := 0) (by omega) hpr (by decide) (inI64 (x := 0) (by decide)) ?_
    rw [decide_eq_false (show ¬ (c = 0 ∧ p = 0) from fun h => k1 h.1)]
    have d1 : ((c : Int) == 0) = false := beq_eq_false_iff_ne.2 (by omega)
    have d2 : ((c : Int) != 0) = true := bne_iff_ne.2 (by omega)
    (conv => whnf); rw [d1]
    (conv => whnf); refine bneq_b Tryz.underlying4 ?_
    (conv => whnf); rw [d2]
    (conv => whnf)
    exact ⟨rfl, st7.old⟩
  | inr r =>
    rw [hpm] at hPa hOk
    have hn : r.nodes ≤ 2000 := hOk
    replace hPa : v = .tuple #[nodeV r, .agg (fiL 0 0).toArray] := hPa
    subst hPa
    obtain ⟨T1, v1, e1⟩ := nodeV_if r
    (conv => whnf); refine valloc (.agg (fiL 0 0).toArray) (fiL 0 0) fi_z rfl ?_
    intro q4 H3 hq3 hs3 hb3 ha3
    have st3 := st2.box hq3 hs3 hb3 ha3
    (conv => whnf); refine stNB (cs := fiL 0 0) st3 0 rfl rfl (Nat.le_refl _) rfl fun H4 st4 => ?_
    have e4 : splice (fiL 0 0) 0 (fiL 0 0) = fiL 0 0 := splAll rfl
    rw [e4] at st4
    (conv => whnf); refine VCall.mk (dparse_c s H4) ?_
    rintro v5 H5 ⟨ha5, hPd⟩
    unfold PdAns at hPd
    rw [hpm] at hPd
    obtain ⟨ns, na, nc, root, rfl, hT, hnl, hSl⟩ := hPd
    obtain ⟨na', nc', e5, st5⟩ := st4.got ha5 hSl
    injection e5 with e51 e52 e53
    subst e51; subst e53
    (conv => whnf); refine valloc _ reZ re_z rfl ?_
    intro q5 H6 hq6 hs6 hb6 ha6
    have st6 := st5.box hq6 hs6 hb6 ha6
    (conv => whnf); refine stNB (cs := reL (.slice na ns.length nc) (root : Int)) st6 2 rfl rfl (Nat.le_refl _) rfl fun H7 st7 => ?_
    rw [splAll (show (reL (.slice na ns.length nc) (root : Int)).length = reZ.length from rfl)] at st7
    (conv => whnf); refine ldN (cs := fiL 0 0) ag27 (ld_fi (st7.blk 0 rfl)) trivial ?_
    (conv => whnf); refine vbuildS Tryz.underlying27 rfl _ fi_z (fiL 0 0) rfl ?_
    (conv => whnf); refine fi_eq (c := 0) (p := 0) (c' := 0) (p' := 0) (by decide) (inI64 (x := 0) (by decide)) (by decide) (inI64 (x := 0) (by decide)) ?_
    rw [decide_eq_true (show (0 : Nat) = 0 ∧ (0 : Int) = 0 from ⟨rfl, rfl⟩)]
    (conv => whnf)
    (conv => whnf); refine bneq_b Tryz.underlying4 ?_
    (conv => whnf)
    cases hpl : r.plain with
    | true =>
      obtain ⟨hrng, hel⟩ := nf_rng hpl hn
      (conv => whnf); refine VCall.mk (build_c r hpl (by omega) H7) ?_
      rintro v8 H8 ⟨ha8, hv⟩
      rw [if_neg (by omega)] at hv
      obtain ⟨ea, ec, rfl, hown⟩ := hv
      obtain ⟨ea', ec', e8, st8⟩ := st7.got ha8 hown
      injection e8 with e81 e82 e83
      subst e81; subst e83
      (conv => whnf); refine valloc _ nfZ nfa_z rfl ?_
      intro y H9 hy hs9 hb9 ha9
      have st9 := st8.box hy hs9 hb9 ha9
      (conv => whnf); refine stNB (cs := nfL (nfaOf r) (.slice ea (nfaOf r).edges.length ec)) st9 4 rfl rfl (Nat.le_refl _) rfl fun H10 st10 => ?_
      rw [splice_all (show (nfL (nfaOf r) (.slice ea (nfaOf r).edges.length ec)).length = nfZ.length from rfl)] at st10
      (conv => whnf); refine re_load (by omega) (st10.blk 2 rfl) ag32 trivial (st10.view 1 rfl) fun v11 hv11 => ?_
      (conv => whnf); refine VCall.mk (dbuild_c hpl hn (fun k hk => hk) hv11 hT) ?_
      rintro _ H12 ⟨ha12, da, dc, rfl, hown12⟩
      obtain ⟨da', dc', e12, st12⟩ := st10.got ha12 hown12
      injection e12 with e121 e122 e123
      subst e121; subst e123
      (conv => whnf); refine valloc _ nfZ nfd_z rfl ?_
      intro z H13 hz hs13 hb13 ha13
      have st13 := st12.box hz hs13 hb13 ha13
      (conv => whnf); refine stNB (cs := nfL (nfaOf r) (.slice da (nfaOf r).edges.length dc)) st13 6 rfl rfl (Nat.le_refl _) rfl fun H14 st14 => ?_
      rw [splice_all (show (nfL (nfaOf r) (.slice da (nfaOf r).edges.length dc)).length = nfZ.length from rfl)] at st14
      (conv => whnf); refine nf_load hrng hel (st14.blk 4 rfl) ag37 trivial (st14.view 3 rfl) fun v15 hv15 => ?_
      (conv => whnf); refine nd_load hrng hel (st14.blk 6 rfl) ag42 trivial (st14.view 5 rfl) fun w15 hw15 => ?_
      (conv => whnf); refine pures (same04_p (fun k hk => hk) (fun k hk => hk) hv15 hw15) fun H16 ha16 => ?_
      have st16 := st14.call ha16
      (conv => whnf)
      exact ⟨rfl, st16.old⟩
    | false =>
      (conv => whnf); refine VCall.mk (buildE_c r hpl hn H7) ?_
      rintro _ H8 ⟨ha8, rfl⟩
      have st8 := (st7.call ha8).nils tEd 104
      (conv => whnf); refine valloc _ nfZ nfa_z rfl ?_
      intro y H9 hy hs9 hb9 ha9
      have st9 := st8.box hy hs9 hb9 ha9
      (conv => whnf); refine stNB (cs := nfZ) st9 4 rfl rfl (Nat.le_refl _) rfl fun H10 st10 => ?_
      rw [splice_all (show nfZ.length = nfZ.length from rfl)] at st10
      (conv => whnf); refine re_load (by omega) (st10.blk 2 rfl) ag32 trivial (st10.view 1 rfl) fun v11 hv11 => ?_
      (conv => whnf); refine VCall.mk (dbuildE_c hpl hn (fun k hk => hk) hv11 hT) ?_
      rintro _ H12 ⟨ha12, rfl⟩
      have st12 := (st10.call ha12).nils tEdD 106
      (conv => whnf); refine valloc _ nfZ nfd_z rfl ?_
      intro z H13 hz hs13 hb13 ha13
      have st13 := st12.box hz hs13 hb13 ha13
      (conv => whnf); refine stNB (cs := nfZ) st13 6 rfl rfl (Nat.le_refl _) rfl fun H14 st14 => ?_
      rw [splice_all (show nfZ.length = nfZ.length from rfl)] at st14
      (conv => whnf); refine nf_load (a := nf0) (ea := none) (ec := 0) nf0_rng (by decide) (st14.blk 4 rfl) ag37 trivial (st14.view 3 rfl) fun v15 hv15 => ?_
      (conv => whnf); refine nd_load (a := nf0) (ea := none) (ec := 0) nf0_rng (by decide) (st14.blk 6 rfl) ag42 trivial (st14.view 5 rfl) fun w15 hw15 => ?_
      (conv => whnf); refine pures (same04_p (fun k hk => hk) (fun k hk => hk) hv15 hw15) fun H16 ha16 => ?_
      have st16 := st14.call ha16
      (conv => whnf)
      exact ⟨rfl, st16.old⟩
theorem nfaBuilds_q (s : ByteArray) (S : Nat → Prop) (H : Heap) (hs : s.size ≤ 1048576) (hE : EscH H) : Pure Tryz.prog 3 #[.string s] H (.bool true) := nfaBuilds_p s H hE
end Go.Proofs.YtlnmhfhdjnenoaaGreatDoor
/- The table of escapes, out of a row's list; a world for the witness. -/
set_option linter.unusedVariables false
set_option linter.unusedSimpArgs false
set_option maxRecDepth 100000
namespace Go.Proofs.YtlnmhfhdjnenoaaGreatDoor
open Go.VC Go.Lib
open Go.ChangeShapes Go.WideShapes Go.ChangeAt Go.RowKit
theorem esc_g : Tryz.prog.globalNamed "loupe/class.escapes" = some 0 := by kernel_rfl
theorem esc_gt : (Tryz.prog.globals[0]?).map (·.type) = some 189 := by kernel_rfl
theorem esc_c : Tryz.prog.cellsOf 189 = 6 := by kernel_rfl
theorem esc_c2 : Tryz.prog.cellsOf 188 = 2 := by kernel_rfl
theorem esc_u : Tryz.prog.underlying 189 = some (.array 3 188) := by kernel_rfl
theorem pair_u8 {enc : TypeId × Value → Unit} {w : World} {base : Nat} {sp : Nat → Bool} {held : Bool} {fuel : Nat} {cs : List Value} {a b : Int} {p : List MemPlace}
    (h : DataW.trod enc Tryz.prog w base sp held fuel 188 cs = some (.agg [.lit (.int .u8 a), .lit (.int .u8 b)], p)) : cs = [.int .u8 a, .int .u8 b] := by
  obtain ⟨y0, y1, m, e, hl, h0, h1⟩ := trod_struct2 Tryz.underlying188 h
  obtain ⟨n0, e0, r0, -⟩ := DataW.trod_int Tryz.underlying5 h0
  obtain ⟨n1, e1, r1, -⟩ := DataW.trod_int Tryz.underlying5 h1
  subst r0; subst r1
  injection e with e2 e3
  injection e2 with e2
  simp only [List.cons.injEq, DataW.lit.injEq, Lit.int.injEq, true_and, and_true] at e2
  rw [esc_c2] at hl
  match cs, hl with
  | [x, y], _ =>
    have e0 : [x] = [Value.int .u8 n0] := e0
    have e1 : [y] = [Value.int .u8 n1] := e1
    injection e0 with e0
    injection e1 with e1
    rw [e0, e1, ← e2.1, ← e2.2]
theorem esc_cells {enc : TypeId × Value → Unit} {w : World} {base : Nat} {sp : Nat → Bool} {held : Bool} {fuel : Nat} {cs : List Value} {p : List MemPlace}
    (h : DataW.trod enc Tryz.prog w base sp held fuel 189 cs = some (Rows.laid_loupe_class_escapes, p)) : cs = escL := by
  obtain ⟨xs, m, -, e, hl, hx, hi⟩ := DataW.trod_array esc_u h
  rw [esc_c] at hl
  injection e with e1 e2
  have e1 : (Rows.laid_loupe_class_escapes : DataW Unit) = .agg (xs.map (·.1)) := e1
  unfold Rows.laid_loupe_class_escapes at e1
  injection e1 with e1
  match xs, hx with
  | [x0, x1, x2], _ =>
    simp only [List.map_cons, List.map_nil, List.cons.injEq, and_true] at e1
    obtain ⟨r0, r1, r2⟩ := e1
    have h0 := hi 0 (by decide)
    have h1 := hi 1 (by decide)
    have h2 := hi 2 (by decide)
    rw [esc_c2] at h0 h1 h2
    have k0 := pair_u8 (p := x0.2) (h0.trans (by rw [r0]; rfl))
    have k1 := pair_u8 (p := x1.2) (h1.trans (by rw [r1]; rfl))
    have k2 := pair_u8 (p := x2.2) (h2.trans (by rw [r2]; rfl))
    match cs, hl with
    | [a, b, c, d, e, f], _ =>
      have k0 : [a, b] = _ := k0
      have k1 : [c, d] = _ := k1
      have k2 : [e, f] = _ := k2
      simp only [List.cons.injEq, and_true] at k0 k1 k2
      obtain ⟨rfl, rfl⟩ := k0
      obtain ⟨rfl, rfl⟩ := k1
      obtain ⟨rfl, rfl⟩ := k2
      rfl
theorem esc_of_laid {W : World} (h : laidMetH Tryz.prog [("loupe/class.escapes", Rows.laid_loupe_class_escapes)] W) : EscH W.heap := by
  obtain ⟨ps, ⟨g0, t0, cs0, f0, p0, q0, hg0, ht0, hv0, hd0, -, -⟩, -⟩ := h
  obtain rfl := Option.some.inj (esc_g.symm.trans hg0)
  obtain rfl := Option.some.inj (esc_gt.symm.trans ht0)
  have hc := esc_cells hd0
  refine ⟨fun j v hj => ?_, ?_⟩
  · have := World.var?_cell esc_g hv0 j
    rw [Nat.zero_add]
    have h2 : cs0[j]? = some v := by
      rw [← Array.getElem?_toList, hc]
      exact hj
    rw [h2] at this
    exact this
  · unfold World.var? at hv0
    rw [esc_g] at hv0
    apply Classical.byContradiction
    intro hn
    simp only [Option.bind_some] at hv0
    rw [Array.getElem?_eq_none (by omega)] at hv0
    simp at hv0
def putEsc (vs : Array Value) : Obj → Obj
  | .cells _ t frozen => .cells vs t frozen
  | o => o
noncomputable def laidW4 (os : Os) : World :=
  { World.holding Tryz.prog os ⟨#[], #[], []⟩ with heap := (World.holding Tryz.prog os ⟨#[], #[], []⟩).heap.modify 0 (putEsc escL.toArray) }
end Go.Proofs.YtlnmhfhdjnenoaaGreatDoor
/- Reading arguments: what the form says of them, as1 typed views. -/
set_option linter.unusedVariables false
set_option linter.unusedSimpArgs false
namespace Go.VC
open Go.Proofs.YtlnmhfhdjnenoaaGreatDoor.Rows (uptoBulk uptoBulkAll)
def InW (W : World) (k : Nat) : Prop := k < W.heap.size
/-- How many values a list bears. -/
def szL {α : Type} (sz : α → Nat) : List α → Nat
  | [] => 1
  | x :: xs => sz x + szL sz xs
theorem szL_snoc {α : Type} (sz : α → Nat) (x : α) : ∀ xs : List α, szL sz (xs ++ [x]) = szL sz xs + sz x
  | [] => by simp [szL]; omega
  | y :: ys => by simp only [List.cons_append, szL, szL_snoc sz x ys]; omega
theorem szL_len {α : Type} {sz : α → Nat} (h : ∀ x, 1 ≤ sz x) : ∀ xs : List α, xs.length + 1 ≤ szL sz xs
  | [] => Nat.le_refl _
  | y :: ys => by have := szL_len h ys; have := h y; simp only [List.length_cons, szL]; omega
section
variable {H : Type} {enc : TypeId × Value → H} {P : Program} {W : World} {t e : TypeId}
end

end Go.VC
/- Sets as1 arguments. -/
set_option linter.unusedVariables false
set_option linter.unusedSimpArgs false
set_option maxRecDepth 100000
namespace Go.Proofs.YtlnmhfhdjnenoaaGreatDoor
open Go.VC Go
end Go.Proofs.YtlnmhfhdjnenoaaGreatDoor
/- Closing: a law that returns true and leaves all that was there as1 it was. -/
set_option linter.unusedVariables false
namespace Go.VC
open Go.ChangeShapes Go.WideShapes Go.ChangeAt Go.RowKit

theorem kept_of_agr {W W' : World} {may : MemPlace → Prop} (he : Env W W') (h : Agr (Old W.heap) W.heap W'.heap) : W.keptBut W' may := by
  refine ⟨he.os, he.output, fun i hi => ?_⟩
  rw [h i hi]
  split <;> simp_all
theorem frozen_of_agr {W W' : World} (h : Agr (Old W.heap) W.heap W'.heap) (a : Addr) (ha : a.block < W.heap.size) : W'.frozen? a = W.frozen? a := by
  unfold World.frozen?
  rw [h a.block ha]
theorem sameAt_of_agr {W W' : World} (h : Agr (Old W.heap) W.heap W'.heap) : ∀ p : MemPlace, p.block < W.heap.size → W.sameAt W' p
  | .cell b o, hb => by
    show W'.cell? ⟨b, o, none⟩ = W.cell? ⟨b, o, none⟩
    rw [cell_w, cell_w]
    exact cell_eq (h b hb)
  | .map b, hb => h b hb
section
variable {H : Type} {enc : TypeId × Value → H} {P : Program}
theorem all_stay {W W' : World} {sp : Nat → Bool} (hl : laidOutB P = true) (ha : Agr (Old W.heap) W.heap W'.heap) : ∀ {ts : List TypeId} {vs : List Value} {ds : List (DataW H)} {ps : List MemPlace}, (∀ t ∈ ts, P.readableRec t = true ∧ t < P.types.size) →
    DataW.TrodAll enc P W 0 (fun _ => true) true ts vs ds ps → (∀ p ∈ ps, p.block < W.heap.size) → (∀ p ∈ ps, sp p.block = true) → DataW.TrodAll enc P W' 0 sp true ts vs ds ps
  | [], vs, ds, ps, _, h, _, _ => by
    obtain ⟨rfl, rfl, rfl⟩ := trodAll_nil h
    exact trodAll_mk0
  | t :: ts, vs, ds, ps, ht, h, hlt, hsp => by
    obtain ⟨v, vs', d, ds', p, q, rfl, rfl, rfl, h1, h2⟩ := trodAll_cons h
    have ht0 := ht t List.mem_cons_self
    exact trodAll_cons_mk (WideElems.Trod_stays hl ht0.1 ht0.2 h1 (fun x hx => sameAt_of_agr ha x (hlt x (List.mem_append_left _ hx))) fun x hx => hsp x (List.mem_append_left _ hx))
      (all_stay hl ha (fun x hx => ht x (List.mem_cons_of_mem _ hx)) h2 (fun x hx => hlt x (List.mem_append_right _ hx)) fun x hx => hsp x (List.mem_append_right _ hx))
theorem trod_b {w : World} {base : Nat} {sp : Nat → Bool} {hd : Bool} {t : TypeId} {b : Bool} (h : P.underlying t = some .bool) : DataW.Trod enc P w base sp hd t (.bool b) (.lit (.bool b)) [] := ⟨1, by simp [DataW.trod, Value.cells, h]⟩
/-- The law has returned true; what was there is as1 it was. -/
theorem post_true {f : Func} {s : ChangeSpec} {apart fresh handsOn again : Bool} {W W' : World} {args : Array Value} {ds gs : List (DataW H)} {before : List MemPlace} {bt : TypeId}
    (hW : DataW.Whole enc P f.params.toList s.vars apart W args.toList ds gs before) (hv : s.vars = []) (hfn : (s.fn H (ds ++ gs)).results = [.lit (.bool true)] ∧ (s.fn H (ds ++ gs)).args = ds ∧ (s.fn H (ds ++ gs)).vars = [])
    (hl : laidOutB P = true) (hp : f.params.toList.all (fun t => P.readableRec t && decide (t < P.types.size)) = true) (hr : f.resultTypes = #[bt]) (hu : P.underlying bt = some .bool)
    (he : Env W W') (ha : Agr (Old W.heap) W.heap W'.heap) : s.post enc P f apart fresh handsOn again W args (.bool true) W' := by
  have hlt := hW.lt
  have hW' := hW
  obtain ⟨pa, pv, hA, hV, hbe, hz, hn⟩ := hW
  rw [hv] at hV
  obtain ⟨rfl, rfl⟩ := trodVars_none hV
  rw [List.append_nil] at hbe
  subst hbe
  obtain ⟨hres, hargs, hvars⟩ := hfn
  have hk : W.keptBut W' (fun _ => False) := kept_of_agr he ha
  have hpp : ∀ t ∈ f.params.toList, P.readableRec t = true ∧ t < P.types.size := fun t ht => by
    have := List.all_eq_true.1 hp t ht
    simpa using this
  have hst : ∀ sp : Nat → Bool, (∀ p ∈ before, sp p.block = true) → DataW.TrodAll enc P W' 0 sp true f.params.toList args.toList (s.fn H (ds ++ [])).args before := fun sp hsp => by
    rw [hargs]; exact all_stay hl ha hpp hA hlt hsp
  have hrs : ∀ (b : Nat) (sp : Nat → Bool) (hd : Bool), DataW.TrodAll enc P W' b sp hd f.resultTypes.toList ((Value.bool true).resultList f.resultTypes.size) (s.fn H (ds ++ [])).results [] := fun b sp hd => by
    rw [hres, hr]; exact trodAll_mk1 (trod_b hu)
  have hvs : ∀ sp : Nat → Bool, DataW.TrodVars enc P W' sp s.vars (s.fn H (ds ++ [])).vars [] := fun sp => by
    rw [hvars, hv]; rfl
  have hok : ∀ (j : Nat) (t : TypeId) (r : Value), f.resultTypes[j]? = some t → ((Value.bool true).resultList f.resultTypes.size)[j]? = some r → Value.okWide P W' .any 0 t r := ok_one hr rfl (okWide_bool_mk hu true)
  refine ⟨ds, [], before, [], before, [], hW', hrs _ _ _, hst _ (fun p hp => decide_eq_true (hlt p hp)), hvs _, World.keptBut_mono (fun p hp => hp.elim) hk, fun _ => ?_⟩
  refine ⟨hok, _, _, ([] ++ before) ++ [], ⟨[] ++ before, [], trodAll_append (hst _ (fun _ _ => rfl)) (hrs _ _ _), hvs _, rfl, ?_, ?_⟩, ?_⟩
  · intro b off hp
    simp only [List.nil_append, List.append_nil] at hp
    rw [frozen_of_agr ha _ (hlt _ hp)]
    exact hz b off hp
  · intro hap
    have := hn hap
    simpa using this
  · intro p hp _
    simpa using hp
end

end Go.VC
/- A law's net, handed in. -/
set_option linter.unusedVariables false
set_option linter.unusedSimpArgs false
set_option maxRecDepth 100000
namespace Go.Proofs.YtlnmhfhdjnenoaaGreatDoor
open Go.VC Go
theorem own_ : ownKnob Tryz.prog.godebug = none := by kernel_rfl
theorem laid_ : laidOutB Tryz.prog = true := by kernel_rfl
theorem small_of {H : Type} {ds : List (DataW H)} (h : Rows.uptoSmall H ds = true) : Rows.uptoBulkAll ds ≤ 1048576 := by simpa [Rows.uptoSmall] using h
section
variable {H : Type} {enc : TypeId × Value → H} {W : World}
end
end Go.Proofs.YtlnmhfhdjnenoaaGreatDoor
