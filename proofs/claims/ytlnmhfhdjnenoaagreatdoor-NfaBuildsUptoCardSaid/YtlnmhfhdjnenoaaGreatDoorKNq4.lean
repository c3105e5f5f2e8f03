/- Parts of the proof: PRd3, VHeldG, VHeldT, PPa8, PPa9, PPa10, PPa11, PPErr, PNfa1, VMapI, PNfa2, PSort, VRange -/
import Derived.Test.YtlnmhfhdjnenoaaGreatDoorKNq3
import Derived.Test.YtlnmhfhdjnenoaaGreatDoorKNq2
import Derived.Test.YtlnmhfhdjnenoaaGreatDoorKNq1
import Derived.Sort.OwnSortedInts
import Derived.Shelf.Sort.Plain
import Derived.Shelf.Slices.In.SortNone
import Derived.TacticsIn
import Derived.RangeFuncRecord
/- class.reader's item; class.Read: the walks. -/
set_option linter.unusedVariables false
set_option linter.unusedSimpArgs false
set_option maxRecDepth 100000
namespace Go.VC
theorem vta_sure {P : Program} {t A : TypeId} {S : Nat → Prop} {H : Heap} {K : Value → Prop} {v : Value} {d : TypeDesc} (hd : P.underlying A = some d) (hn : ∀ ms, d ≠ .interface ms) (k : K v) : VDet P (Instr.typeAssert (.iface A v) t A false) S H K := by
  refine VDet.mk _ (fun w _ => ?_) k
  unfold Instr.typeAssert
  simp only [Sem.run_bind, run_underlying hd, Result.andThen_ok]
  cases d <;> first | (exact absurd rfl (hn _)) | simp
end Go.VC
namespace Go.Proofs.YtlnmhfhdjnenoaaGreatDoor
open Go.VC Go.Lib
theorem of_nl : ofB 0#256 (byN ⟨#[10]⟩) = spanS 10 10 := by decide +kernel
set_option maxHeartbeats 16000000 in
theorem item_c {B : Nat → Prop} {H0 H : Heap} {ps : List Pc} {k r i : Nat} {t : ByteArray} (hE : EscH H0) (hEB : B 0) (ht : t.size ≤ 1152921504606846976) (st : StB B H0 H ps) (hp : ps[k]? = some (pRd r t i)) (hi : i < t.size) :
    FnOkP Tryz.prog 128 #[.pointer (some ⟨r, 0, none⟩)] H (fun v H' => ∃ (x : BitVec 256) (j : Nat), readSet t i = .inr (x, j) ∧ v = setV x ∧ StB B H0 H' (ps.set k (pRd r t j)))
      (fun x H' => ∃ e j : Nat, readSet t i = .inl e ∧ x = faultV 10 e ∧ StB B H0 H' (ps.set k (pRd r t j))) := by
  refine FnOkP.of_vc Tryz.func128 rfl (Tryz.call128 _) ?_
  obtain ⟨b, hb1, hb2, hb3⟩ := bt_in hi
  (conv => whnf); refine valloc (setV 0) (setL 0) rfl rfl ?_
  intro q2 H2 hq2 hs2 hb2' ha2
  have st2 := st.box hq2 hs2 hb2' ha2
  have hp2 : (ps ++ [pB 102 q2 (setL 0)])[k]? = some (pRd r t i) := lgL hp
  have hset : ∀ (j : Nat), (ps ++ [pB 102 q2 (setL 0)]).set k (pRd r t j) = ps.set k (pRd r t j) ++ [pB 102 q2 (setL 0)] := fun j => lsL hp
  have hl : ∀ (j : Nat), (ps.set k (pRd r t j) ++ [pB 102 q2 (setL 0)])[(ps.set k (pRd r t j)).length]? = some (pB 102 q2 (setL 0)) := fun j => lgR0 _ _
  have hbr := st2.blk k hp2
  (conv => whnf); refine VDrawP.of (VDraw.lex rfl (by kernel_rfl) ?_)
  (conv => whnf); refine VC.fa fl206_0 ?_
  (conv => whnf); refine ld1 (v := .string t) ct9 (by rw [hbr.cell]; rfl) trivial ?_
  (conv => whnf); refine VC.fa fl206_1 ?_
  (conv => whnf); refine ld1 (v := .int .i64 (i : Int)) ct3 (by rw [hbr.cell]; rfl) trivial ?_
  (conv => whnf); refine vidxs rstrT rfl hb1 ?_
  rw [← hb2]
  have fin : ∀ (x : BitVec 256) (j : Nat) (G : Heap), readSet t i = .inr (x, j) → StB B H0 G (ps.set k (pRd r t j) ++ [pB 102 q2 (setL 0)]) → True := fun _ _ _ _ _ => trivial
  by_cases h46 : bt t i = 46
  · have d1 : ((bt t i : Int) == (46 : Int)) = true := by rw [h46]; rfl
    (conv => whnf); try (refine VSeqP.run ?_)
    (conv => whnf); rw [d1]
    (conv => whnf); refine VC.fa fl206_1 ?_
    (conv => whnf); refine ld1 (v := .int .i64 ((i : Nat) : Int)) ct3 (by rw [(st2.blk k hp2).cell]; rfl) trivial ?_
    (conv => whnf); rw [w64 (x := ((i : Nat) : Int) + 1) (by omega) (by omega)]
    (conv => whnf); refine VC.fa fl206_1 ?_
    (conv => whnf); refine st1B st2 k ct3 hp2 (by simp) rfl fun H4 st4 => ?_
    replace st4 : StB B H0 H4 ((ps ++ [pB 102 q2 (setL 0)]).set k (pRd r t (i + 1))) := st4
    rw [hset] at st4
    (conv => whnf); refine VCallP.of (pures (of_p ⟨#[10]⟩ (by decide) H4) fun H5 ha5 => ?_)
    have st5 := st4.call ha5
    rw [of_nl]
    (conv => whnf); refine VCallP.of (pures (not_c (spanS 10 10) H5) fun H6 ha6 => ?_)
    have st6 := st5.call ha6
    (conv => whnf); refine stNB (cs := setL (~~~(spanS 10 10))) st6 _ rfl (hl _) (Nat.le_refl _) rfl fun H7 st7 => ?_
    have hb7 : Blk H7 q2 102 (setL (~~~(spanS 10 10))) := by
      have := st7.blk _ (lgS (hl _))
      rwa [splAll (by rfl)] at this
    rw [lsR0] at st7
    (conv => whnf); refine ldN (cs := setL (~~~(spanS 10 10))) ag102 (ld_set hb7) trivial ?_
    exact ⟨_, i + 1, by unfold readSet; rw [if_pos h46], rfl, st7.lft⟩
  have d1 : ((bt t i : Int) == (46 : Int)) = false := beq_eq_false_iff_ne.2 (by omega)
  by_cases h91 : bt t i = 91
  · have d2 : ((bt t i : Int) == (91 : Int)) = true := by rw [h91]; rfl
    have hrs : readSet t i = bracM t (i + 1) := by unfold readSet; rw [if_neg h46, if_pos h91]
    (conv => whnf); try (refine VSeqP.run ?_)
    (conv => whnf); rw [d1]
    (conv => whnf); rw [d2]
    (conv => whnf); refine VC.fa fl206_1 ?_
    (conv => whnf); refine ld1 (v := .int .i64 ((i : Nat) : Int)) ct3 (by rw [(st2.blk k hp2).cell]; rfl) trivial ?_
    (conv => whnf); rw [w64 (x := ((i : Nat) : Int) + 1) (by omega) (by omega)]
    (conv => whnf); refine VC.fa fl206_1 ?_
    (conv => whnf); refine st1B st2 k ct3 hp2 (by simp) rfl fun H4 st4 => ?_
    replace st4 : StB B H0 H4 ((ps ++ [pB 102 q2 (setL 0)]).set k (pRd r t (i + 1))) := st4
    (conv => whnf); refine VCallP.mk (members_c hE hEB ht st4 (lgS hp2) (by omega)) ?_ ?_
    · rintro _ H5 ⟨x, j, hx, rfl, st5⟩
      rw [List.set_set, hset] at st5
      (conv => whnf); refine stNB (cs := setL x) st5 _ rfl (hl _) (Nat.le_refl _) rfl fun H7 st7 => ?_
      have hb7 : Blk H7 q2 102 (setL x) := by
        have := st7.blk _ (lgS (hl _))
        rwa [splAll (by rfl)] at this
      rw [lsR0] at st7
      (conv => whnf); refine ldN (cs := setL x) ag102 (ld_set hb7) trivial ?_
      exact ⟨x, j, by rw [hrs, hx], rfl, st7.lft⟩
    · rintro _ H5 ⟨e, j, hx, rfl, st5⟩
      rw [List.set_set, hset] at st5
      exact ⟨e, j, by rw [hrs, hx], rfl, st5.lft⟩
  have d2 : ((bt t i : Int) == (91 : Int)) = false := beq_eq_false_iff_ne.2 (by omega)
  have hrs : readSet t i = match oneM t specS i with | .inl e => .inl e | .inr (b, k) => .inr (spanS b b, k) := by unfold readSet; rw [if_neg h46, if_neg h91]; rfl
  (conv => whnf); try (refine VSeqP.run ?_)
  (conv => whnf); rw [d1]
  (conv => whnf); rw [d2]
  (conv => whnf); refine VCallP.mk (one_c (s := specS) hE hEB ht st2 hp2) ?_ ?_
  · rintro _ H5 ⟨c, j, hx, rfl, st5⟩
    have hok := oneM_ok hx
    rw [hset] at st5
    rw [hx] at hrs
    (conv => whnf); refine VCallP.of (pures (span_p c c (by omega) (by omega) H5) fun H6 ha6 => ?_)
    have st6 := st5.call ha6
    (conv => whnf); refine stNB (cs := setL (spanS c c)) st6 _ rfl (hl _) (Nat.le_refl _) rfl fun H7 st7 => ?_
    have hb7 : Blk H7 q2 102 (setL (spanS c c)) := by
      have := st7.blk _ (lgS (hl _))
      rwa [splAll (by rfl)] at this
    rw [lsR0] at st7
    (conv => whnf); refine ldN (cs := setL (spanS c c)) ag102 (ld_set hb7) trivial ?_
    exact ⟨_, j, hrs, rfl, st7.lft⟩
  · rintro _ H5 ⟨e, j, hx, rfl, st5⟩
    rw [hset] at st5
    rw [hx] at hrs
    exact ⟨e, j, hrs, rfl, st5.lft⟩
/-! ### class.Read -/
def faultA (c i : Nat) : Value := .agg #[.int .i64 (c : Int), .int .i64 (i : Int), .string ⟨#[]⟩]
def faultL (c i : Nat) : List Value := [.int .i64 (c : Int), .int .i64 (i : Int), .string ⟨#[]⟩]
def rdRes (q4 q5 q6 : Nat) (x : BitVec 256) (j c e : Nat) : List Pc := [pB 102 q4 (setL x), pB 3 q5 [.int .i64 (j : Int)], pB 27 q6 (faultL c e)]
theorem rdclosR {H : Heap} {q4 q5 q6 : Nat} {K : Heap → Prop} (k : K H) : VClos Tryz.prog 127 #[.pointer (some ⟨q4, 0, none⟩), .pointer (some ⟨q5, 0, none⟩), .pointer (some ⟨q6, 0, none⟩)] .returning .returning H K := by
  refine VClos.mk (R := fun H' => H' = H) (callsD_rec (R := fun H' => H' = H) Tryz.func127 rfl ⟨⟨_, rfl⟩, rfl, rfl, rfl, rfl, rfl⟩ .ret rfl ?_) (fun H' h => by rw [h]; exact k)
  (conv => whnf)
  refine ⟨rfl, ?_⟩
  (conv => whnf); refine ifneqN Tryz.underlying20 ?_
  (conv => whnf)
theorem rdclosP {B : Nat → Prop} {H0 H : Heap} {q4 q5 q6 e j c0 e0 : Nat} {x : BitVec 256} {ps : List Pc} {K : Heap → Prop} (st : StB B H0 H (rdRes q4 q5 q6 x j c0 e0 ++ ps)) (k : ∀ H', StB B H0 H' (rdRes q4 q5 q6 0 0 10 e ++ ps) → K H') :
    VClos Tryz.prog 127 #[.pointer (some ⟨q4, 0, none⟩), .pointer (some ⟨q5, 0, none⟩), .pointer (some ⟨q6, 0, none⟩)] (.panicking (pe (faultV 10 e))) (.panicking [{ v := faultV 10 e, recovered := true }]) H K := by
  refine VClos.mk (R := fun H' => StB B H0 H' (rdRes q4 q5 q6 0 0 10 e ++ ps)) (callsD_rec (R := fun H' => StB B H0 H' (rdRes q4 q5 q6 0 0 10 e ++ ps)) Tryz.func127 rfl ⟨⟨_, rfl⟩, rfl, rfl, rfl, rfl, rfl⟩ (.pan _) rfl ?_) k
  (conv => whnf)
  refine ⟨rfl, ?_⟩
  (conv => whnf); refine ifneq Tryz.underlying20 ?_
  (conv => whnf); refine VDraw.held (fun _ => False) 6 (sq [0,1,2] (.f 3 (.f 4 (.f 5 .e)))) rfl (by kernel_rfl) ?_
  (conv => whnf); refine vbuildA ar102 (setV 0) rfl (setL 0) rfl ?_
  (conv => whnf); refine vta_sure Tryz.underlying27 (fun ms h => by cases h) ?_
  (conv => whnf); refine stNB (cs := setL 0) st 0 rfl rfl (Nat.le_refl _) rfl fun H1 st1 => ?_
  refine ⟨fun k hk => hk.elim, ?_⟩
  (conv => whnf); refine st1B st1 1 ct3 rfl (by simp) rfl fun H2 st2 => ?_
  refine ⟨fun k hk => hk.elim, ?_⟩
  (conv => whnf); refine stNB (cs := faultL 10 e) st2 2 rfl rfl (Nat.le_refl _) rfl fun H3 st3 => ?_
  refine ⟨fun k hk => hk.elim, ?_⟩
  (conv => whnf)
  have e1 : splice (setL x) 0 (setL 0) = setL 0 := splAll rfl
  have e2 : splice (faultL c0 e0) 0 (faultL 10 e) = faultL 10 e := splAll rfl
  rw [e2] at st3
  rw [e1] at st3
  exact st3
/-- What Read answers. -/
def RdAns (t : ByteArray) (i : Nat) (v : Value) : Prop := match readSet t i with
  | .inl e => v = .tuple #[setV 0, .int .i64 0, faultA 10 e]
  | .inr (x, j) => v = .tuple #[setV x, .int .i64 (j : Int), faultA 0 0]
set_option maxHeartbeats 16000000 in
theorem classRead_c {H : Heap} {t : ByteArray} {i : Nat} (hE : EscH H) (ht : t.size ≤ 1152921504606846976) (hi : i < t.size) :
    FnOk Tryz.prog 112 #[.string t, .int .i64 (i : Int)] H fun v H' => Agr (Old H) H H' ∧ RdAns t i v := by
  refine FnOk.of_defer Tryz.func112 rfl (Tryz.call112 _) ⟨rfl, rfl, rfl, ⟨_, rfl⟩, rfl, rfl⟩ (fun vs w => Tryz.call127 _ w) ?_
  (conv => whnf); refine valloc (setV 0) (setL 0) rfl rfl ?_
  intro q4 H1 hq1 hs1 hb1 ha1
  have st1 := (St.nil H).box hq1 hs1 hb1 ha1
  (conv => whnf); refine valloc (.int .i64 0) [.int .i64 0] rfl rfl ?_
  intro q5 H2 hq2 hs2 hb2 ha2
  have st2 := st1.box hq2 hs2 hb2 ha2
  (conv => whnf); refine valloc (faultA 0 0) (faultL 0 0) rfl rfl ?_
  intro q6 H3 hq3 hs3 hb3 ha3
  have st3 := st2.box hq3 hs3 hb3 ha3
  have d1 : decide ((i : Int) < 0) = false := decide_eq_false (by omega)
  have d2 : decide ((i : Int) ≥ (t.size : Int)) = false := decide_eq_false (by omega)
  (conv => whnf); rw [d1]
  (conv => whnf); rw [d2]
  (conv => whnf)
  refine ⟨rfl, ?_⟩
  (conv => whnf); refine vbuildS Tryz.underlying206 rfl _ rfl (rdL t i) rfl ?_
  (conv => whnf); refine vbox (rdL t i) rfl ?_
  intro r H4 hq4 hs4 hb4 ha4
  have st4 := st3.box hq4 hs4 hb4 ha4
  have o3 : q4 < q5 := by have : q5 = H1.size := hq2; omega
  have o4 : q5 < q6 := by have : q6 = H2.size := hq3; omega
  have o5 : q6 < r := by have : r = H3.size := hq4; omega
  (conv => whnf); refine VCallP.mk (item_c (k := 3) hE hE.2 ht st4 rfl hi) ?_ ?_
  · rintro _ H5 ⟨x, j, hx, rfl, st5⟩
    (conv => whnf); refine stNB (cs := setL x) st5 0 rfl rfl (Nat.le_refl _) rfl fun H6 st6 => ?_
    have e1 : splice (setL 0) 0 (setL x) = setL x := splAll rfl
    rw [e1] at st6
    have b4 := st6.blk 0 rfl
    have br : Blk H6 r 206 (rdL t j) := st6.blk 3 rfl
    (conv => whnf); refine VDrawP.held (fun k => k = q4 ∨ k = r) [] (sq [0,1,2,3,4,5] (.f 6 (.f 7 (.f 8 .e)))) (blind_clos (R := fun v H5 => Agr (Old H) H H5 ∧ RdAns t i v) (by kernel_rfl)) rfl (by kernel_rfl) ?_
    (conv => whnf); refine ldN (cs := setL x) ag102 (ld_set b4) (.inl rfl) ?_
    (conv => whnf); refine VC.fa fl206_1 ?_
    (conv => whnf); refine ld1 (v := .int .i64 (j : Int)) ct3 (by rw [br.cell]; rfl) (.inr rfl) ?_
    (conv => whnf); refine vbuildS Tryz.underlying27 rfl _ rfl (faultL 0 0) rfl ?_
    (conv => whnf); refine stNBa (cs := setL x) st6 0 rfl rfl (Nat.le_refl _) rfl fun H7 st7 ha7 hs7 => ?_
    have e2 : splice (setL x) 0 (setL x) = setL x := splAll rfl
    rw [e2] at st7
    have a7 : Agr (fun k => k = q4 ∨ k = r) H6 H7 := fun k hk => by
      rcases hk with h | h
      · rw [h]; exact (st7.blk 0 rfl).trans b4.symm
      · exact ha7 _ (show k ≠ q4 by omega)
    refine ⟨a7, ?_⟩
    (conv => whnf); refine st1Ba st7 1 ct3 rfl (by simp) rfl fun H8 st8 ha8 hs8 => ?_
    have a8 : Agr (fun k => k = q4 ∨ k = r) H6 H8 := a7.trans (ha8.mono fun k hk => by rcases hk with rfl | rfl <;> omega)
    refine ⟨a8, ?_⟩
    (conv => whnf); refine stNBa (cs := faultL 0 0) st8 2 rfl rfl (Nat.le_refl _) rfl fun H9 st9 ha9 hs9 => ?_
    have a9 : Agr (fun k => k = q4 ∨ k = r) H6 H9 := a8.trans (ha9.mono fun k hk => by rcases hk with rfl | rfl <;> omega)
    refine ⟨a9, ?_⟩
    (conv => whnf)
    refine rdclosR ?_
    (conv => whnf); refine ldN (cs := setL x) ag102 (ld_set (st9.blk 0 rfl)) trivial ?_
    (conv => whnf); refine ld1 (v := .int .i64 (j : Int)) ct3 (by rw [(st9.blk 1 rfl).cell]; rfl) trivial ?_
    (conv => whnf); refine ldN (cs := faultL 0 0) ag27 ((st9.blk 2 rfl).cells (fun j v hv => by rw [Nat.zero_add]; exact hv)) trivial ?_
    refine ⟨st9.old, ?_⟩
    unfold RdAns
    rw [hx]
    rfl
  · rintro _ H5 ⟨e, j, hx, rfl, st5⟩
    refine rdclosP (q4 := q4) (q5 := q5) (q6 := q6) (x := 0) (j := 0) (c0 := 0) (e0 := 0) st5 fun H6 st6 => ?_
    (conv => whnf); refine ldN (cs := setL 0) ag102 (ld_set (st6.blk 0 rfl)) trivial ?_
    (conv => whnf); refine ld1 (v := .int .i64 0) ct3 (by rw [(st6.blk 1 rfl).cell]; rfl) trivial ?_
    (conv => whnf); refine ldN (cs := faultL 10 e) ag27 ((st6.blk 2 rfl).cells (fun j v hv => by rw [Nat.zero_add]; exact hv)) trivial ?_
    refine ⟨st6.old, ?_⟩
    unfold RdAns
    rw [hx]
    rfl
end Go.Proofs.YtlnmhfhdjnenoaaGreatDoor
/- Regions whose order is open, with operations under conditions. -/
set_option linter.unusedVariables false
set_option linter.unusedSimpArgs false
namespace Go.VC
/-- An operation's condition: what is asked where it is wanted, and where it isn't. -/
def whenK (all : List Oper) (o : Oper) (fr : Fr) (yes no : Fr → Prop) : Prop :=
  match o.guard with
  | none => yes fr
  | some (j, want) => match (all[j]?).bind (·.dst) with
    | none => False
    | some t => rdK fr t fun v => match v with
      | .bool b => VIte b
        (wrK fr t (.bool true) fun fr1 => match want with
          | true => yes fr1
          | false => no fr1)
        (wrK fr t (.bool false) fun fr1 => match want with
          | false => yes fr1
          | true => no fr1)
      | .tuple _ => no fr
      | _ => False
theorem whenK_sound {all : List Oper} {o : Oper} {fr : Fr} {a : Act} {yes no : Fr → Prop} (hat : At fr a) (h : whenK all o fr yes no) :
    (Region.wanted o (yielded all.toArray a.tmps) = true ∧ yes fr) ∨ (Region.wanted o (yielded all.toArray a.tmps) = false ∧ no fr) := by
  unfold whenK at h
  split at h
  · rename_i hg
    exact .inl ⟨by simp [Region.wanted, hg], h⟩
  · rename_i j want hg
    split at h
    · exact h.elim
    · rename_i t ht
      rw [rdK_eq] at h
      split at h
      · rename_i b hb
        have hy := yielded_at hat ht hb
        have hs : fr.set t (.bool b) = fr := rd_set_self hb (by simp [undef])
        cases b <;> cases want <;> simp only [VIte, wrK_eq, hs] at h
        · exact .inl ⟨by simp [Region.wanted, hg, hy], h⟩
        · exact .inr ⟨by simp [Region.wanted, hg, hy], h⟩
        · exact .inr ⟨by simp [Region.wanted, hg, hy], h⟩
        · exact .inl ⟨by simp [Region.wanted, hg, hy], h⟩
      · rename_i vs hb
        exact .inr ⟨by simp [Region.wanted, hg, yielded_no hat ht hb], h⟩
      · exact h.elim
def skipG (o : Oper) (H : Heap) (K : Fr → Heap → Prop) (fr : Fr) : Prop := putK o.dst fr undef fun fr' => apK K fr' H
def quietG (P : Program) (S : Nat → Prop) (o : Oper) (H : Heap) (K : Fr → Heap → Prop) (fr : Fr) : Prop :=
  match isDet o && convDet P o with
  | true => detK P S o fr H fun v => putK o.dst fr v fun fr' => apK K fr' H
  | false => False
def doG (P : Program) (S : Nat → Prop) (z : Bool) (H0 : Heap) (o : Oper) (H : Heap) (K : Fr → Heap → Prop) (fr : Fr) : Prop :=
  match z with
  | true => opK P false (fun _ => True) o fr H fun v H' => putK o.dst fr v fun fr' => apK K fr' H'
  | false => opK P false (fun _ => True) o fr H fun v H' => Agr S H0 H' ∧ putK o.dst fr v fun fr' => apK K fr' H'
def stepG (P : Program) (S : Nat → Prop) (Z : List Nat) (H0 : Heap) (all : List Oper) (i : Nat) (fr : Fr) (H : Heap) (next : Fr → Heap → Prop) : Prop :=
  match all[i]? with
  | none => False
  | some o => whenK all o fr (doG P S (Z.contains i) H0 o H next) (skipG o H next)
theorem stepG_sound {P : Program} {S : Nat → Prop} {Z : List Nat} {w0 : World} {all : List Oper} {Q : Exit → Act → World → Prop} {i : Nat} {fr : Fr} {a : Act} {w : World} {next : Fr → Heap → Prop} {N : Act → World → Prop}
    (hat : At fr a) (hc : Env w0 w) (hcl : Z.contains i = false → Cls w0 S w) (h : stepG P S Z w0.heap all i fr w.heap next)
    (hn : ∀ fr' a' w', At fr' a' → Env w0 w' → (Z.contains i = false → Cls w0 S w') → next fr' w'.heap → N a' w') : wpOp P all.toArray Q i N a w := by
  unfold stepG at h
  split at h
  · exact h.elim
  · rename_i o ho
    have ho' : all.toArray[i]? = some o := by simpa using ho
    rcases whenK_sound hat h with ⟨hwant, h⟩ | ⟨hwant, h⟩
    · unfold wpOp
      rw [ho']
      dsimp only
      rw [if_pos hwant]
      unfold doG at h
      split at h
      · rename_i hz
        refine .inl (Oper.wp_mono ?_ (opK_sound hat h _))
        rintro a' w' ⟨v, rfl, henv, hk⟩
        rw [putK_eq] at hk
        exact hn _ _ _ (hat.put o.dst v) (hc.trans henv) (fun hne => by rw [hz] at hne; cases hne) hk
      · refine .inl (Oper.wp_mono ?_ (opK_sound hat h _))
        rintro a' w' ⟨v, rfl, henv, hagr, hk⟩
        rw [putK_eq] at hk
        exact hn _ _ _ (hat.put o.dst v) (hc.trans henv) (fun _ => ⟨hc.trans henv, hagr⟩) hk
    · unfold wpOp
      rw [ho']
      dsimp only
      rw [if_neg (by rw [hwant]; exact Bool.false_ne_true)]
      unfold skipG at h
      rw [putK_eq] at h
      exact hn _ _ _ (hat.put o.dst undef) hc hcl h
end Go.VC
/- Regions whose order is open, where three operations may be ready at a time. -/
set_option linter.unusedVariables false
set_option linter.unusedSimpArgs false
namespace Go.VC
inductive Sc3 where
  | e
  | q (i : Nat) (s : Sc3)
  | f (i : Nat) (s : Sc3)
  | b (i : Nat) (s : Sc3) (j : Nat) (s' : Sc3)
  | t (i : Nat) (s : Sc3) (j : Nat) (s' : Sc3) (k : Nat) (s'' : Sc3)
def sq3 : List Nat → Sc3 → Sc3
  | [], s => s
  | i :: l, s => .q i (sq3 l s)
def Sc3.len : Sc3 → Nat
  | .e => 0
  | .q _ s => s.len + 1
  | .f _ s => s.len + 1
  | .b _ s _ _ => s.len + 1
  | .t _ s _ _ _ _ => s.len + 1
def Sc3.even : Sc3 → Bool
  | .e => true
  | .q _ s => s.even
  | .f _ s => s.even
  | .b _ s _ s' => s.even && s'.even && s.len == s'.len
  | .t _ s _ s' _ s'' => s.even && s'.even && s''.even && s.len == s'.len && s.len == s''.len
def heldB3 (ops : Array Oper) : Sc3 → Array Bool → Bool
  | .e, listed => (Region.ready .any ops listed).isEmpty
  | .q i s, listed => (Region.ready .any ops listed).contains i && Region.free .any ops listed i && heldB3 ops s (listed.setIfInBounds i true)
  | .f i s, listed => Region.ready .any ops listed == [i] && heldB3 ops s (listed.setIfInBounds i true)
  | .b i s j s', listed => Region.ready .any ops listed == [i, j] && heldB3 ops s (listed.setIfInBounds i true) && heldB3 ops s' (listed.setIfInBounds j true)
  | .t i s j s' k s'', listed => Region.ready .any ops listed == [i, j, k] && heldB3 ops s (listed.setIfInBounds i true) && heldB3 ops s' (listed.setIfInBounds j true) && heldB3 ops s'' (listed.setIfInBounds k true)
def held3 (P : Program) (S : Nat → Prop) (H0 : Heap) (all : List Oper) (s : Sc3) : Fr → Heap → (Fr → Heap → Prop) → Prop :=
  Sc3.rec (motive := fun _ => Fr → Heap → (Fr → Heap → Prop) → Prop) (fun fr H K => K fr H)
    (fun i _ ih fr H K => match all[i]? with
      | none => False
      | some o => whenK all o fr (quietG P S o H fun fr' H' => ih fr' H' K) (skipG o H fun fr' H' => ih fr' H' K))
    (fun i _ ih fr H K => stepG P S [] H0 all i fr H fun fr' H' => ih fr' H' K)
    (fun i _ j _ ih ih' fr H K => (stepG P S [] H0 all i fr H fun fr' H' => ih fr' H' K) ∧ stepG P S [] H0 all j fr H fun fr' H' => ih' fr' H' K)
    (fun i _ j _ k _ ih ih' ih'' fr H K => (stepG P S [] H0 all i fr H fun fr' H' => ih fr' H' K) ∧ (stepG P S [] H0 all j fr H fun fr' H' => ih' fr' H' K) ∧ stepG P S [] H0 all k fr H fun fr' H' => ih'' fr' H' K) s
theorem held3_q (P : Program) (S : Nat → Prop) (H0 : Heap) (all : List Oper) (i : Nat) (s : Sc3) (fr : Fr) (H : Heap) (K : Fr → Heap → Prop) : held3 P S H0 all (.q i s) fr H K =
    (match all[i]? with
      | none => False
      | some o => whenK all o fr (quietG P S o H fun fr' H' => held3 P S H0 all s fr' H' K) (skipG o H fun fr' H' => held3 P S H0 all s fr' H' K)) := rfl
theorem held3_sound {P : Program} {S : Nat → Prop} {w0 : World} {all : List Oper} {Q : Exit → Act → World → Prop} (hs : Region.noSelect all.toArray = true)
    (hp : ∀ c a w, ¬ Q (.panic c) a w) : ∀ (l : Sc3) (listed : Array Bool) (fr : Fr) (a : Act) (w : World) (K : Fr → Heap → Prop), At fr a → Env w0 w → Cls w0 S w → Shut all.toArray listed →
    (∀ fr' a' w', At fr' a' → Env w0 w' → K fr' w'.heap → Q .normal a' w') → heldB3 all.toArray l listed = true → l.even = true →
    held3 P S w0.heap all l fr w.heap K → wpAnyZ P all.toArray Q (Cls w0 S) [] l.len listed a w
  | .e, listed, fr, a, w, K, hat, he, _, _, hq, hB, _, h => ⟨by simpa [heldB3] using hB, hq fr a w hat he h⟩
  | .q i s, listed, fr, a, w, K, hat, he, hc, hsh, hq, hB, hev, h => by
    simp only [heldB3, Bool.and_eq_true] at hB
    obtain ⟨⟨b1, b2⟩, hB2⟩ := hB
    rw [held3_q] at h
    split at h
    · exact h.elim
    · rename_i o ho
      have ho' : all.toArray[i]? = some o := by simpa using ho
      have hri : i ∈ Region.ready .any all.toArray listed := by simpa using b1
      rcases whenK_sound hat h with ⟨hwant, h⟩ | ⟨hwant, h⟩
      · unfold quietG at h
        split at h
        · obtain ⟨v, hv, hk⟩ := detK_sound h
          rw [putK_eq] at hk
          refine wpAnyZ_first (v := v) (f := all.toArray.size) ho' (Region.noSelect_spec hs) (fun c a' w' hh => (hp _ _ _ hh).elim) rfl (fun j hj => by cases hj) s.len listed a w hsh (Region.free_spec ho' b2) hri
            (.inl ⟨hwant, fun w' hw' => ?_⟩) hc ?_
          · rw [hat.evalF]
            exact hv w' fun k hk => (hw'.2 k hk).trans (hc.2 k hk).symm
          · exact held3_sound hs hp s _ _ _ w K (hat.put o.dst v) he hc (hsh.put hri) hq hB2 hev hk
        · exact h.elim
      · unfold skipG at h
        rw [putK_eq] at h
        exact wpAnyZ_first (v := undef) (f := all.toArray.size) ho' (Region.noSelect_spec hs) (fun c a' w' hh => (hp _ _ _ hh).elim) rfl (fun j hj => by cases hj) s.len listed a w hsh (Region.free_spec ho' b2) hri
          (.inr ⟨hwant, rfl⟩) hc (held3_sound hs hp s _ _ _ w K (hat.put o.dst undef) he hc (hsh.put hri) hq hB2 hev h)
  | .f i s, listed, fr, a, w, K, hat, he, hc, hsh, hq, hB, hev, h => by
    simp only [heldB3, Bool.and_eq_true, beq_iff_eq] at hB
    obtain ⟨b1, hB2⟩ := hB
    refine ⟨(fun h0 => by rw [b1] at h0; cases h0), fun j hj => ?_⟩
    have hj0 := hj
    rw [b1] at hj
    obtain rfl : j = i := by simpa using hj
    exact stepG_sound (Z := []) hat he (fun _ => hc) h fun fr' a' w' h1 h2 h3 h4 => ⟨h3, held3_sound hs hp s _ _ _ w' K h1 h2 (h3 rfl) (hsh.put hj0) hq hB2 hev h4⟩
  | .b i s j s', listed, fr, a, w, K, hat, he, hc, hsh, hq, hB, hev, h => by
    simp only [heldB3, Bool.and_eq_true, beq_iff_eq] at hB
    obtain ⟨⟨b1, hB2⟩, hB3⟩ := hB
    simp only [Sc3.even, Bool.and_eq_true, beq_iff_eq] at hev
    obtain ⟨⟨e1, e2⟩, e3⟩ := hev
    refine ⟨(fun h0 => by rw [b1] at h0; cases h0), fun k hk => ?_⟩
    have hk0 := hk
    rw [b1] at hk
    rcases List.mem_cons.1 hk with rfl | hk
    · exact stepG_sound (Z := []) hat he (fun _ => hc) h.1 fun fr' a' w' h1 h2 h3 h4 => ⟨h3, held3_sound hs hp s _ _ _ w' K h1 h2 (h3 rfl) (hsh.put hk0) hq hB2 e1 h4⟩
    · obtain rfl : k = j := by simpa using hk
      rw [e3]
      exact stepG_sound (Z := []) hat he (fun _ => hc) h.2 fun fr' a' w' h1 h2 h3 h4 => ⟨h3, held3_sound hs hp s' _ _ _ w' K h1 h2 (h3 rfl) (hsh.put hk0) hq hB3 e2 h4⟩
  | .t i s j s' m s'', listed, fr, a, w, K, hat, he, hc, hsh, hq, hB, hev, h => by
    simp only [heldB3, Bool.and_eq_true, beq_iff_eq] at hB
    obtain ⟨⟨⟨b1, hB2⟩, hB3⟩, hB4⟩ := hB
    simp only [Sc3.even, Bool.and_eq_true, beq_iff_eq] at hev
    obtain ⟨⟨⟨⟨e1, e2⟩, e3⟩, e4⟩, e5⟩ := hev
    refine ⟨(fun h0 => by rw [b1] at h0; cases h0), fun k hk => ?_⟩
    have hk0 := hk
    rw [b1] at hk
    rcases List.mem_cons.1 hk with rfl | hk
    · exact stepG_sound (Z := []) hat he (fun _ => hc) h.1 fun fr' a' w' h1 h2 h3 h4 => ⟨h3, held3_sound hs hp s _ _ _ w' K h1 h2 (h3 rfl) (hsh.put hk0) hq hB2 e1 h4⟩
    · rcases List.mem_cons.1 hk with rfl | hk
      · rw [e4]
        exact stepG_sound (Z := []) hat he (fun _ => hc) h.2.1 fun fr' a' w' h1 h2 h3 h4 => ⟨h3, held3_sound hs hp s' _ _ _ w' K h1 h2 (h3 rfl) (hsh.put hk0) hq hB3 e2 h4⟩
      · obtain rfl : k = m := by simpa using hk
        rw [e5]
        exact stepG_sound (Z := []) hat he (fun _ => hc) h.2.2 fun fr' a' w' h1 h2 h3 h4 => ⟨h3, held3_sound hs hp s'' _ _ _ w' K h1 h2 (h3 rfl) (hsh.put hk0) hq hB4 e3 h4⟩
theorem VDraw.held3 {P : Program} {l : List Oper} {fr : Fr} {H : Heap} {K : Fr → Heap → Prop} (S : Nat → Prop) (sched : Sc3) (hm : P.follows .mixedOrders = true)
    (hB : (Region.noSelect l.toArray && (sched.len == l.length) && sched.even && heldB3 l.toArray sched (Array.replicate l.length false)) = true)
    (h : VC.held3 P S H l sched fr H K) : VDraw P l fr H K := by
  refine ⟨?_⟩
  intro id Q a w hat hw hp hq
  subst hw
  simp only [Bool.and_eq_true, beq_iff_eq] at hB
  refine wp_region_any hm (wpAny_of_Z (S := Cls w S) (Z := []) _ _ _ _ ?_)
  have hsh : Shut l.toArray (Array.replicate l.length false) := fun j o _ hj => by
    rw [Array.getD_eq_getD_getElem?, Array.getElem?_replicate] at hj
    split at hj <;> simp at hj
  have := held3_sound (P := P) (S := S) (w0 := w) (Q := Q) hB.1.1.1 hp sched (Array.replicate l.length false) fr a { w with drawn := w.drawn + 1 } K hat ⟨rfl, rfl, rfl⟩ ⟨⟨rfl, rfl, rfl⟩, Agr.refl _ _⟩ hsh hq hB.2 hB.1.2 h
  rw [hB.1.1.2] at this
  simpa using this
end Go.VC
/- regex.scanner: what a step of the parser answers (plain); atom: the walk. -/
set_option linter.unusedVariables false
set_option linter.unusedSimpArgs false
set_option maxRecDepth 100000
namespace Go.VC
theorem StB.capT {α : Type} {T : Ty α} {S : Nat → Prop} {B : Nat → Prop} {H0 H : Heap} {ps : List Pc} {e : TypeId} {a : Option Addr} {n cap : Nat} {xs : List α} (st : StB B H0 H ps) (i : Nat) (hp : ps[i]? = some (pN T S e a n cap xs)) : xs.length ≤ cap := by
  obtain ⟨cs, ⟨h0, h1⟩, h2⟩ := (st.at_ i hp).1
  rcases h1 with ⟨h1, h3⟩ | ⟨b, cap', l, h1, h4, h5, h6, h7, h8, h9⟩
  · rw [h3]; exact Nat.zero_le _
  · cases h1; omega
theorem StB.popT {α : Type} {T : Ty α} {B : Nat → Prop} {H0 H : Heap} {ps : List Pc} {e : TypeId} {a : Option Addr} {n cap : Nat} {xs : List α} {x : α} (st : StB B H0 H ps) (i : Nat) (hp : ps[i]? = some (pS T e a n cap (xs ++ [x]))) : StB B H0 H (ps.set i (pS T e a xs.length cap xs)) := by
  have hown := (st.at_ i hp).1
  refine st.say i hp _ ⟨hown.pop, fun k hk => hk.elim⟩ fun k hk => ?_
  rcases hk with ⟨o, m, c, hk⟩ | hk
  · injection hk with e1 e2 e3
    subst e1
    exact .inl ⟨o, n, cap, rfl⟩
  · exact hk.elim
theorem Blk.ne {H : Heap} {b b' : Nat} {e e' : TypeId} {l l' : List Value} (h : Blk H b e l) (h' : Blk H b' e' l') (he : e ≠ e') : b ≠ b' := by
  rintro rfl
  have e1 := Option.some.inj (h.symm.trans h')
  injection e1 with _ e2 _
  exact he e2
end Go.VC
namespace Go.Proofs.YtlnmhfhdjnenoaaGreatDoor
open Go.VC Go.Lib
/-! ### steps of the machine -/
section
variable {t : ByteArray} {i : Nat} {f : AF} {fs : List AF}
theorem pstep_open (h : bt t i = 40) (hl : fs.length < 1000) : pstep t ⟨i, f, fs⟩ = .inr ⟨i + 1, openF i, settleF f :: fs⟩ := by
  unfold pstep; simp only [h]; rw [if_neg (by decide), if_neg (by decide), if_neg (by decide), if_neg (by decide), if_pos trivial, if_neg (by omega)]
theorem pstep_deep (h : bt t i = 40) (hl : 1000 ≤ fs.length) : pstep t ⟨i, f, fs⟩ = .inl (23, i) := by
  unfold pstep; simp only [h]; rw [if_neg (by decide), if_neg (by decide), if_neg (by decide), if_neg (by decide), if_pos trivial, if_pos hl]
theorem pstep_close {g : AF} (h : bt t i = 41) : pstep t ⟨i, f, g :: fs⟩ = .inr ⟨i + 1, { g with factor := (closeF f).alt }, fs⟩ := by
  unfold pstep; simp only [h]; rw [if_neg (by decide), if_neg (by decide), if_neg (by decide), if_pos trivial]
theorem pstep_close0 (h : bt t i = 41) : pstep t ⟨i, f, []⟩ = .inl (20, i) := by
  unfold pstep; simp only [h]; rw [if_neg (by decide), if_neg (by decide), if_neg (by decide), if_pos trivial]
theorem pstep_bar (h : bt t i = 124) : pstep t ⟨i, f, fs⟩ = .inr ⟨i + 1, closeF f, fs⟩ := by
  unfold pstep; simp only [h]; rw [if_neg (by decide), if_pos trivial]
theorem pstep_sign (h : bt t i = 38 ∨ bt t i = 45) : pstep t ⟨i, f, fs⟩ = .inr ⟨i + 1, { foldF f with sign := bt t i }, fs⟩ := by
  unfold pstep
  rcases h with h | h <;> (simp only [h]; rw [if_neg (by decide), if_neg (by decide), if_pos (by decide)])
theorem pstep_post0 (h : postB (bt t i) = true) (hf : f.factor = none) : pstep t ⟨i, f, fs⟩ = .inl (20, i) := by
  unfold pstep; simp only [hf]; rw [if_pos h]
/-- A byte with which an atom may begin. -/
def firstB (c : Nat) : Prop := c ≠ 124 ∧ c ≠ 38 ∧ c ≠ 45 ∧ c ≠ 41 ∧ postB c = false
theorem pstep_cls (h : firstB (bt t i)) (h40 : bt t i ≠ 40) {x : BitVec 256} {k : Nat} (hr : readSet t i = .inr (x, k)) : pstep t ⟨i, f, fs⟩ = .inr ⟨k, { settleF f with factor := some (.cls x) }, fs⟩ := by
  unfold pstep; simp only [hr]; rw [if_neg (by rw [h.2.2.2.2]; decide), if_neg h.1, if_neg (by rintro (e | e); exact h.2.1 e; exact h.2.2.1 e), if_neg h.2.2.2.1, if_neg h40]
theorem pstep_clsE (h : firstB (bt t i)) (h40 : bt t i ≠ 40) {e : Nat} (hr : readSet t i = .inl e) : pstep t ⟨i, f, fs⟩ = .inl (10, e) := by
  unfold pstep; simp only [hr]; rw [if_neg (by rw [h.2.2.2.2]; decide), if_neg h.1, if_neg (by rintro (e | e); exact h.2.1 e; exact h.2.2.1 e), if_neg h.2.2.2.1, if_neg h40]
theorem escM_no {e : Nat} (h : escM t i = .inl e) : e ≤ i + 2 := by
  unfold escM at h
  split at h
  · cases h; omega
  · split at h
    · cases h
    · split at h
      · cases h
      · split at h
        · cases h
        · split at h
          · split at h
            · cases h; omega
            · split at h
              · cases h; omega
              · cases h
          · split at h
            · cases h; omega
            · cases h
theorem oneM_no {u : ByteArray} {e : Nat} (h : oneM t u i = .inl e) : e ≤ i + 3 := by
  unfold oneM at h
  split at h
  · have := escM_no h; omega
  · split at h
    · cases h; omega
    · cases h
theorem memM_no : ∀ {n i e : Nat} {x : BitVec 256}, memM t n i x = .inl e → i ≤ t.size + 2 → e ≤ t.size + 6
  | 0, i, e, x, h, hi => by cases h; omega
  | n + 1, i, e, x, h, hi => by
    unfold memM at h
    split at h
    · cases h
    · split at h
      · rename_i e1 h1
        cases h
        have := oneM_no h1; omega
      · rename_i lo j h1
        have := oneM_ok h1
        unfold dashM at h
        split at h
        · split at h
          · rename_i e2 h2
            cases h
            have := oneM_no h2; omega
          · rename_i hi2 k2 h2
            have := oneM_ok h2
            split at h
            · cases h; omega
            · exact memM_no h (by omega)
        · exact memM_no h (by omega)
theorem readSet_no {e : Nat} (h : readSet t i = .inl e) (hi : i < t.size) : e ≤ t.size + 6 := by
  unfold readSet at h
  split at h
  · cases h
  · split at h
    · unfold bracM at h
      split at h
      · rename_i e1 h1
        cases h
        exact memM_no h1 (by split <;> omega)
      · cases h
    · split at h
      · rename_i e1 h1
        cases h
        have := oneM_no h1; omega
      · cases h
end
/-! ### contracts -/
abbrev tPl : Ty Int := tInt .i64
/-- The scanner, the places of the open brackets, other pieces. -/
abbrev sP (s : Nat) (t : ByteArray) (i : Nat) (a : Option Addr) (n cap : Nat) (os : List Int) (ps : List Pc) : List Pc := pSc s t i (.slice a n cap) :: pS tPl 3 a n cap os :: ps
/-- The scanner and the places of the open brackets in memory. -/
structure Sc (B : Nat → Prop) (H : Heap) (s : Nat) (t : ByteArray) (i : Nat) (os : List Int) (ps : List Pc) : Prop where
  ex : ∃ a n cap, StB B H H (sP s t i a n cap os ps)
structure SR (B : Nat → Prop) (H : Heap) (s : Nat) (t : ByteArray) (j : Nat) (os : List Int) (ps : List Pc) (r : ReM) (v : Value) (H' : Heap) : Prop where
  ex : ∃ (B' : Nat → Prop) (fn : Value), v = .agg (ruleL r fn).toArray ∧ (∀ k, B k → B' k) ∧ Agr B H H' ∧ Sc B' H' s t j os ps ∧ GrowV B' H' fn r
structure SE (B : Nat → Prop) (H : Heap) (t : ByteArray) (st : RdS) (x : Value) (H' : Heap) : Prop where
  ex : ∃ c p : Nat, prun t st = .inl (c, (p : Int)) ∧ x = faultV c p ∧ Agr B H H'
theorem SE.from {B B' : Nat → Prop} {H H1 H' : Heap} {t : ByteArray} {st st' : RdS} {x : Value} (h : SE B' H1 t st' x H') (hp : prun t st = prun t st') (ha : Agr B H H1) (hs : ∀ k, B k → B' k) : SE B H t st x H' := by
  obtain ⟨c, p, h1, h2, h3⟩ := h
  exact ⟨c, p, hp.trans h1, h2, ha.trans fun k hk => h3 k (hs k hk)⟩
/-- The alternatives from i on: what their walk is to show. -/
def AltSpec (t : ByteArray) (i : Nat) : Prop := ∀ (B : Nat → Prop) (H : Heap) (s : Nat) (os : List Int) (ps : List Pc) (f : AF) (fs : List AF), EscH H → B 0 → i ≤ t.size → os.length = fs.length → fs.length ≤ 1000 →
  f.alt = none → f.meet = none → f.row = none → f.factor = none → Sc B H s t i os ps →
  FnOkP Tryz.prog 25 #[.pointer (some ⟨s, 0, none⟩)] H
    (fun v H' => ∃ j f' r, i ≤ j ∧ j ≤ t.size ∧ (j = t.size ∨ bt t j = 41) ∧ prun t ⟨i, f, fs⟩ = prun t ⟨j, f', fs⟩ ∧ (closeF f').alt = some r ∧ f'.place = f.place ∧ SR B H s t j os ps r v H')
    (fun x H' => SE B H t ⟨i, f, fs⟩ x H')
/-! ### faults compared -/
theorem int_wf9 {x : Int} (h : inK .i64 x) : (Lit.int .i64 x).wf = true := by
  unfold Lit.wf
  simp only [Bool.and_eq_true, decide_eq_true_eq]
  exact h
def ftLits (c e : Nat) : List Lit := [.int .i64 (c : Int), .int .i64 (e : Int), .string []]
theorem ft_lits {c e : Nat} (hc : c < 9223372036854775808) (he : e < 9223372036854775808) : Tryz.prog.keyLits 3 27 (faultL c e) = some (ftLits c e) := by
  have c0 : Tryz.prog.cellsOf 27 = 3 := by kernel_rfl
  have c1 : Tryz.prog.cellsOf 25 = 1 := by kernel_rfl
  have c2 : Tryz.prog.cellsOf 3 = 1 := by kernel_rfl
  have c3 : Tryz.prog.cellsOf 9 = 1 := by kernel_rfl
  have h0 : (0 : Nat) ≤ maxLen := Nat.zero_le _
  have h00 : (⟨#[]⟩ : ByteArray).size ≤ maxLen := Nat.zero_le _
  simp [Program.keyLits, Tryz.underlying27, Tryz.underlying25, Tryz.underlying3, Tryz.underlying9, c0, c1, c2, c3, faultL, ftLits, h00, int_wf9 (inI64 hc), int_wf9 (inI64 he)]
theorem ftLits_inj {c e c' e' : Nat} : decide (c = c' ∧ e = e') = true ↔ ftLits c e = ftLits c' e' := by
  unfold ftLits
  rw [decide_eq_true_eq]
  constructor
  · rintro ⟨rfl, rfl⟩; rfl
  · intro h
    simp only [List.cons.injEq, Lit.int.injEq, true_and, and_true] at h
    exact ⟨by omega, by omega⟩
theorem ft_neq {c e c' e' : Nat} (hc : c < 9223372036854775808) (he : e < 9223372036854775808) (hc' : c' < 9223372036854775808) (he' : e' < 9223372036854775808) {x y : Operand} {S : Nat → Prop} {H : Heap} {K : Value → Prop} (k : K (.bool (!decide (c = c' ∧ e = e')))) :
    VDet Tryz.prog (do eqGuard .neq 27 x y (.agg (faultL c e).toArray) (.agg (faultL c' e').toArray); binOp .neq 27 (.agg (faultL c e).toArray) (.agg (faultL c' e').toArray)) S H K :=
  vneq (m := 3) (la := ftLits c e) (lb := ftLits c' e') (by kernel_rfl) (by decide) (Tryz.eqGuardType27) rfl rfl (ft_lits hc he) (ft_lits hc' he') ftLits_inj k
set_option maxHeartbeats 16000000 in
theorem atom_c {B : Nat → Prop} {H : Heap} {s i : Nat} {t : ByteArray} {os : List Int} {ps : List Pc} {f : AF} {fs : List AF} (hE : EscH H) (hEB : B 0) (ht : t.size ≤ 1048576) (hi : i < t.size) (hos : os.length = fs.length) (hfs : fs.length ≤ 1000)
    (hfb : firstB (bt t i)) (IH : ∀ i', i < i' → AltSpec t i') (sc : Sc B H s t i os ps) :
    FnOkP Tryz.prog 100 #[.pointer (some ⟨s, 0, none⟩)] H
      (fun v H' => ∃ j r, i < j ∧ j ≤ t.size ∧ prun t ⟨i, f, fs⟩ = prun t ⟨j, { settleF f with factor := some r }, fs⟩ ∧ SR B H s t j os ps r v H')
      (fun x H' => SE B H t ⟨i, f, fs⟩ x H') := by
  obtain ⟨a, n, cap, st⟩ := sc
  refine FnOkP.of_vc Tryz.func100 rfl (Tryz.call100 _) ?_
  (conv => whnf); refine valloc (.agg rule0.toArray) rule0 rule_z rfl ?_
  intro q2 H1 hq1 hs1 hb1 ha1
  have st1 := st.box hq1 hs1 hb1 ha1
  (conv => whnf); refine VCallP.of (pures (scnext_p (st1.blk 0 rfl) hi) fun H2 ha2 => ?_)
  have st2 := st1.call ha2
  by_cases h40 : bt t i = 40
  · have d1 : (((bt t i : Nat) : Int) != 40) = false := by rw [h40]; rfl
    (conv => whnf); rw [d1]
    obtain rfl : n = os.length := st2.len 1 rfl
    replace st2 : StB B H H2 (sP s t i a os.length cap os ps ++ [pB 77 q2 rule0]) := st2
    (conv => whnf); refine VSeqP.run ?_
    (conv => whnf); refine VC.fa fl74_2 ?_
    (conv => whnf); refine ld1 (v := .slice a os.length cap) ct54 (by rw [(st2.blk 0 rfl).cell]; rfl) trivial ?_
    by_cases hd : 1000 ≤ fs.length
    · have d2 : decide (1000 ≤ (os.length : Int)) = true := decide_eq_true (by omega)
      (conv => whnf); rw [d2]
      (conv => whnf); refine VC.fa fl74_1 ?_
      (conv => whnf); refine ld1 (v := .int .i64 ((i : Nat) : Int)) ct3 (by rw [(st2.blk 0 rfl).cell]; rfl) trivial ?_
      (conv => whnf); refine VCallP.mk (sfail_p (c := 23) (e := i)) (fun _ _ h => h.elim) ?_
      rintro _ _ ⟨rfl, rfl⟩
      exact ⟨23, i, prun_err hi (pstep_deep h40 hd), rfl, st2.old⟩
    · have d2 : decide (1000 ≤ (os.length : Int)) = false := decide_eq_false (by omega)
      (conv => whnf); rw [d2]
      (conv => whnf); refine VDrawP.of (VDraw.heldZ (fun k => k = s) [13] (sq [0,1,2,3,4,5,6,7,8] (.f 9 (.f 10 (sq [11,12] (.f 13 .e))))) rfl (by kernel_rfl) ?_)
      (conv => whnf); refine VC.fa fl74_2 ?_
      (conv => whnf); refine ld1 (v := .slice a os.length cap) ct54 (by rw [(st2.blk 0 rfl).cell]; rfl) rfl ?_
      (conv => whnf); refine VC.fa fl74_1 ?_
      (conv => whnf); refine ld1 (v := .int .i64 (i : Int)) ct3 (by rw [(st2.blk 0 rfl).cell]; rfl) rfl ?_
      (conv => whnf); refine vbuild1 sl54 [.int .i64 (i : Int)] rfl rfl (by decide) (by decide) ?_
      intro q3 H3 hq3 hs3 hb3 ha3
      have st3 := st2.skip hq3 ha3
      refine ⟨fun k hk => by rw [show k = s from hk]; exact (st3.blk 0 rfl).trans (st2.blk 0 rfl).symm, ?_⟩
      (conv => whnf); refine app1 (x := (i : Int)) st3 1 sl54 rfl hb3 ⟨rfl, inI64 (by omega)⟩ rfl (by omega) (by decide) fun a4 cap4 H4 st4 ha4 => ?_
      refine ⟨fun k hk => by rw [show k = s from hk]; exact (st4.blk 0 rfl).trans (st2.blk 0 rfl).symm, ?_⟩
      (conv => whnf); refine VC.fa fl74_2 ?_
      (conv => whnf); refine st1B st4 0 ct54 rfl (by simp) rfl fun H5 st5 => ?_
      replace st5 : StB B H H5 (sP s t i a4 (os.length + 1) cap4 (os ++ [(i : Int)]) ps ++ [pB 77 q2 rule0]) := st5
      (conv => whnf); refine VC.fa fl74_1 ?_
      (conv => whnf); refine ld1 (v := .int .i64 ((i : Nat) : Int)) ct3 (by rw [(st5.blk 0 rfl).cell]; rfl) trivial ?_
      (conv => whnf); rw [w64 (x := ((i : Nat) : Int) + 1) (by omega) (by omega)]
      (conv => whnf); refine VC.fa fl74_1 ?_
      (conv => whnf); refine st1B st5 0 ct3 rfl (by simp) rfl fun H6 st6 => ?_
      replace st6 : StB B H H6 (sP s t (i + 1) a4 (os.length + 1) cap4 (os ++ [(i : Int)]) ps ++ [pB 77 q2 rule0]) := st6
      have hpo : prun t ⟨i, f, fs⟩ = prun t ⟨i + 1, openF i, settleF f :: fs⟩ := prun_step hi (pstep_open h40 (by omega))
      (conv => whnf); refine VCallP.mk (IH (i + 1) (by omega) B H6 s (os ++ [(i : Int)]) (ps ++ [pB 77 q2 rule0]) (openF i) (settleF f :: fs) (esc_at hE hEB st6) hEB (by omega) (by simp; omega) (by simp; omega) rfl rfl rfl rfl ⟨a4, _, cap4, st6.rebase⟩) ?_ ?_
      rotate_left
      · intro x H7 h
        exact h.from hpo st6.old fun k hk => hk
      rintro _ H7 ⟨j, f', r, hij, hj, hend, hpr, hcl, hpl, ⟨B1, f1, rfl, s1, a7, ⟨a2, n2, cap2, st7⟩, gv⟩⟩
      obtain ⟨g1, c1, rfl⟩ := gv.fn
      have hn2 : n2 = os.length + 1 := by have := st7.len 1 rfl; rw [this]; simp
      subst hn2
      replace st7 : StB B1 H7 H7 (sP s t j a2 (os.length + 1) cap2 (os ++ [(i : Int)]) ps ++ [pB 77 q2 rule0]) := st7
      have a07 : Agr B H H7 := st6.old.trans a7
      (conv => whnf); refine valloc (.agg rule0.toArray) rule0 rule_z rfl ?_
      intro q6 H8 hq8 hs8 hb8 ha8
      have st8 := st7.box hq8 hs8 hb8 ha8
      rw [List.append_assoc] at st8
      (conv => whnf); refine stNBa (cs := ruleL r (.func (.func g1) #[] c1)) st8 _ rfl (lgR _ _ 1) (by simp [ruleL, rule0]) rfl fun H9 st9 ja9 js9 => ?_
      rw [lsR, spl2 rfl] at st9
      replace st9 : StB B1 H7 H9 (sP s t j a2 (os.length + 1) cap2 (os ++ [(i : Int)]) ps ++ [pB 77 q2 rule0, pB 77 q6 (ruleL r (.func (.func g1) #[] c1))]) := st9
      (conv => whnf); refine VSeqP.run ?_
      (conv => whnf); refine VCallP.of (pures (ended_p (st9.blk 0 rfl)) fun H10 ha10 => ?_)
      have st10 := st9.call ha10
      have a10 : Agr B H H10 := a07.trans fun k hk => st10.old k (s1 k hk)
      by_cases hjt : j < t.size
      · rw [decide_eq_false (show ¬ t.size ≤ j by omega)]
        have h41 : bt t j = 41 := by rcases hend with h | h; omega; exact h
        (conv => whnf)
        (conv => whnf); refine VC.fa fl74_1 ?_
        (conv => whnf); refine ld1 (v := .int .i64 ((j : Nat) : Int)) ct3 (by rw [(st10.blk 0 rfl).cell]; rfl) trivial ?_
        (conv => whnf); rw [w64 (x := ((j : Nat) : Int) + 1) (by omega) (by omega)]
        (conv => whnf); refine VC.fa fl74_1 ?_
        (conv => whnf); refine st1B st10 0 ct3 rfl (by simp) rfl fun H11 st11 => ?_
        replace st11 : StB B1 H7 H11 (sP s t (j + 1) a2 (os.length + 1) cap2 (os ++ [(i : Int)]) ps ++ [pB 77 q2 rule0, pB 77 q6 (ruleL r (.func (.func g1) #[] c1))]) := st11
        have hcap := st11.capT 1 rfl
        rw [List.length_append, List.length_singleton] at hcap
        (conv => whnf); refine VDrawP.of (VDraw.heldZ (fun k => k = s) [14] (sq [0,1,2,3,4,5,6,7,8,9,10,11,12,13] (.f 14 .e)) rfl (by kernel_rfl) ?_)
        (conv => whnf); refine VC.fa fl74_2 ?_
        (conv => whnf); refine ld1 (v := .slice a2 (os.length + 1) cap2) ct54 (by rw [(st11.blk 0 rfl).cell]; rfl) rfl ?_
        (conv => whnf); refine VC.fa fl74_2 ?_
        (conv => whnf); refine ld1 (v := .slice a2 (os.length + 1) cap2) ct54 (by rw [(st11.blk 0 rfl).cell]; rfl) rfl ?_
        (conv => whnf); rw [w64 (x := ((os.length + 1 : Nat) : Int) - 1) (by omega) (by omega)]
        rw [show ((os.length + 1 : Nat) : Int) - 1 = (os.length : Int) by omega]
        (conv => whnf); refine vcutH sl54 (by omega) (by omega) ?_
        (conv => whnf); refine VC.fa fl74_2 ?_
        have st12 := st11.popT 1 rfl
        (conv => whnf); refine st1B st12 0 ct54 rfl (by simp) rfl fun H13 st13 => ?_
        rw [Int.toNat_natCast] at st13
        replace st13 : StB B1 H7 H13 (sP s t (j + 1) a2 os.length cap2 os ps ++ [pB 77 q2 rule0, pB 77 q6 (ruleL r (.func (.func g1) #[] c1))]) := st13
        (conv => whnf); refine ldN (cs := ruleL r (.func (.func g1) #[] c1)) ag77 (ld_rule (st13.blk _ (lgR _ _ 1))) trivial ?_
        (conv => whnf); refine stNBa (cs := ruleL r (.func (.func g1) #[] c1)) st13 _ rfl (lgR _ _ 0) (by simp [ruleL, rule0]) rfl fun H14 st14 ja14 js14 => ?_
        rw [lsR, spl2 rfl] at st14
        (conv => whnf); refine ldN (cs := ruleL r (.func (.func g1) #[] c1)) ag77 (ld_rule (st14.blk _ (lgR _ _ 0))) trivial ?_
        refine ⟨j + 1, r, by omega, by omega, ?_, B1, _, rfl, s1, a07.trans fun k hk => st14.old k (s1 k hk), ⟨a2, _, cap2, st14.lft.rebase⟩, gv.frame st14.old fun k hk => hk⟩
        rw [hpo, hpr, prun_step (s := ⟨j, f', settleF f :: fs⟩) hjt (pstep_close h41), hcl]
      · rw [decide_eq_true (show t.size ≤ j by omega)]
        (conv => whnf); refine VDrawP.held (Old H10) [] (sq [0,1,2,3,4,5,6,7,8,9,10,11,12] (.f 13 .e)) (blind_all _ _) rfl (by kernel_rfl) ?_
        (conv => whnf); refine VC.fa fl74_2 ?_
        (conv => whnf); refine ld1 (v := .slice a2 (os.length + 1) cap2) ct54 (by rw [(st10.blk 0 rfl).cell]; rfl) (st10.blk 0 rfl).lt ?_
        (conv => whnf); refine VC.fa fl74_2 ?_
        (conv => whnf); refine ld1 (v := .slice a2 (os.length + 1) cap2) ct54 (by rw [(st10.blk 0 rfl).cell]; rfl) (st10.blk 0 rfl).lt ?_
        (conv => whnf); rw [w64 (x := ((os.length + 1 : Nat) : Int) - 1) (by omega) (by omega)]
        rw [show ((os.length + 1 : Nat) : Int) - 1 = (os.length : Int) by omega]
        (conv => whnf); refine ixO (j := os.length) (x := (i : Int)) sl54 st10 1 rfl (by simp) rfl fun b5 o5 cs5 hO5 hc5 hr5 => ?_
        obtain ⟨rfl, -⟩ := hr5
        (conv => whnf); refine ld1 (v := .int .i64 (i : Int)) ct3 hc5.one hO5 ?_
        (conv => whnf); refine VCallP.mk (sfail_p (c := 21) (e := i)) (fun _ _ h => h.elim) ?_
        rintro _ _ ⟨rfl, rfl⟩
        refine ⟨21, i, ?_, rfl, a10⟩
        rw [hpo, hpr, prun_end (s := ⟨j, f', settleF f :: fs⟩) hjt]
        show Sum.inl (21, f'.place) = _
        rw [hpl]; rfl
  · have d1 : (((bt t i : Nat) : Int) != 40) = true := bne_iff_ne.2 (by omega)
    (conv => whnf); rw [d1]
    obtain ⟨X, j, c0, e0, hX, hc0, he0, hj⟩ : ∃ (X : BitVec 256) (j c0 e0 : Nat), (∀ v, RdAns t i v → v = .tuple #[setV X, .int .i64 (j : Int), faultA c0 e0]) ∧ c0 ≤ 10 ∧ e0 ≤ t.size + 10 ∧ (readSet t i = .inl e0 ∧ c0 = 10 ∨ readSet t i = .inr (X, j) ∧ c0 = 0 ∧ e0 = 0) := by
      cases hr : readSet t i with
      | inl e => exact ⟨0, 0, 10, e, fun v hv => by unfold RdAns at hv; rw [hr] at hv; exact hv, by omega, by have := readSet_no hr hi; omega, .inl ⟨rfl, rfl⟩⟩
      | inr y => exact ⟨y.1, y.2, 0, 0, fun v hv => by unfold RdAns at hv; rw [hr] at hv; exact hv, by omega, by omega, .inr ⟨rfl, rfl, rfl⟩⟩
    have sx0 : StB B H H2 (sP s t i a n cap os ps ++ [pB 77 q2 rule0]) := st2
    (conv => whnf); refine VDrawP.of ?_
    refine VDraw.cut [3, 4, 5] (fun x : Nat × Nat => match x with | (q3, q5) => [.pointer (some ⟨q3, 0, none⟩), .int .i64 (j : Int), .pointer (some ⟨q5, 0, none⟩)]) (fun x G => match x with | (q3, q5) => StB B H G (sP s t i a n cap os ps ++ [pB 77 q2 rule0]) ∧ Blk G q3 102 (setL X) ∧ Blk G q5 27 (faultL c0 e0)) ?_ ?_
    · refine VDraw.held3 (fun k => k = s) (sq3 [0,1,2,3,4,5,6,7] (.t 8 (sq3 [9,10,11,12] (.b 13 (.f 14 (.f 15 (.q 16 (.f 17 .e)))) 14 (.f 13 (.f 15 (.q 16 (.f 17 .e)))))) 13 (.b 8 (sq3 [9,10,11,12] (.f 14 (.f 15 (.q 16 (.f 17 .e))))) 14 (.f 8 (sq3 [9,10,11,12] (.f 15 (.q 16 (.f 17 .e)))))) 14 (.b 8 (sq3 [9,10,11,12] (.f 13 (.f 15 (.q 16 (.f 17 .e))))) 13 (.f 8 (sq3 [9,10,11,12] (.f 15 (.q 16 (.f 17 .e)))))))) rfl (by kernel_rfl) ?_
      (conv => whnf); refine VC.fa fl74_0 ?_
      (conv => whnf); refine ld1 (v := .string t) ct9 (by rw [(st2.blk 0 rfl).cell]; rfl) rfl ?_
      (conv => whnf); refine VC.fa fl74_1 ?_
      (conv => whnf); refine ld1 (v := .int .i64 (i : Int)) ct3 (by rw [(st2.blk 0 rfl).cell]; rfl) rfl ?_
      (conv => whnf)
      refine ⟨?_, ?_, ?_⟩
      · refine VCall.mk (classRead_c (esc_at hE hEB sx0) (by omega) hi) ?_
        rintro _ J1 ⟨ag0, hR⟩
        obtain rfl := hX _ hR
        have sx1 := sx0.call ag0
        refine ⟨fun k hk => by rw [show k = s from hk]; exact (sx1.blk 0 rfl).trans (st2.blk 0 rfl).symm, ?_⟩
        (conv => whnf)
        refine ⟨?_, ?_⟩
        · refine valloc (setV 0) (setL 0) rfl rfl ?_
          intro q3 J2 gq1 gs1 gb1 ga1
          have sx2 := sx1.box gq1 gs1 gb1 ga1
          rw [List.append_assoc] at sx2
          replace sx2 : StB B H J2 (sP s t i a n cap os ps ++ [pB 77 q2 rule0, pB 102 q3 (setL 0)]) := sx2
          refine ⟨fun k hk => by rw [show k = s from hk]; exact (sx2.blk 0 rfl).trans (st2.blk 0 rfl).symm, ?_⟩
          (conv => whnf)
          refine valloc (faultA 0 0) (faultL 0 0) rfl rfl ?_
          intro q5 J3 gq2 gs2 gb2 ga2
          have sx3 := sx2.box gq2 gs2 gb2 ga2
          rw [List.append_assoc] at sx3
          replace sx3 : StB B H J3 (sP s t i a n cap os ps ++ [pB 77 q2 rule0, pB 102 q3 (setL 0), pB 27 q5 (faultL 0 0)]) := sx3
          refine ⟨fun k hk => by rw [show k = s from hk]; exact (sx3.blk 0 rfl).trans (st2.blk 0 rfl).symm, ?_⟩
          (conv => whnf)
          refine stNB (cs := setL X) sx3 _ rfl (lgR _ _ 1) (Nat.le_refl _) rfl fun J4 sx4 => ?_
          rw [lsR] at sx4
          have e4 : splice (setL 0) 0 (setL X) = setL X := splAll rfl
          replace sx4 : StB B H J4 (sP s t i a n cap os ps ++ [pB 77 q2 rule0, pB 102 q3 (splice (setL 0) 0 (setL X)), pB 27 q5 (faultL 0 0)]) := sx4
          rw [e4] at sx4
          refine ⟨fun k hk => by rw [show k = s from hk]; exact (sx4.blk 0 rfl).trans (st2.blk 0 rfl).symm, ?_⟩
          (conv => whnf); refine stNB (cs := faultL c0 e0) sx4 _ rfl (lgR _ _ 2) (Nat.le_refl _) rfl fun J5 sx5 => ?_
          rw [lsR] at sx5
          have e5 : splice (faultL 0 0) 0 (faultL c0 e0) = faultL c0 e0 := splAll rfl
          replace sx5 : StB B H J5 (sP s t i a n cap os ps ++ [pB 77 q2 rule0, pB 102 q3 (setL X), pB 27 q5 (splice (faultL 0 0) 0 (faultL c0 e0))]) := sx5
          rw [e5] at sx5
          refine ⟨fun k hk => by rw [show k = s from hk]; exact (sx5.blk 0 rfl).trans (st2.blk 0 rfl).symm, ?_⟩
          (conv => whnf)
          exact ⟨rfl, (q3, q5), rfl, sx5.subl ((List.append_sublist_append_left _).2 (List.Sublist.cons_cons _ (List.nil_sublist _))), sx5.blk _ (lgR _ _ 1), sx5.blk _ (lgR _ _ 2)⟩
        · refine valloc (faultA 0 0) (faultL 0 0) rfl rfl ?_
          intro q5 J2 gq1 gs1 gb1 ga1
          have sx2 := sx1.box gq1 gs1 gb1 ga1
          rw [List.append_assoc] at sx2
          replace sx2 : StB B H J2 (sP s t i a n cap os ps ++ [pB 77 q2 rule0, pB 27 q5 (faultL 0 0)]) := sx2
          refine ⟨fun k hk => by rw [show k = s from hk]; exact (sx2.blk 0 rfl).trans (st2.blk 0 rfl).symm, ?_⟩
          (conv => whnf)
          refine valloc (setV 0) (setL 0) rfl rfl ?_
          intro q3 J3 gq2 gs2 gb2 ga2
          have sx3 := sx2.box gq2 gs2 gb2 ga2
          rw [List.append_assoc] at sx3
          replace sx3 : StB B H J3 (sP s t i a n cap os ps ++ [pB 77 q2 rule0, pB 27 q5 (faultL 0 0), pB 102 q3 (setL 0)]) := sx3
          refine ⟨fun k hk => by rw [show k = s from hk]; exact (sx3.blk 0 rfl).trans (st2.blk 0 rfl).symm, ?_⟩
          (conv => whnf)
          refine stNB (cs := setL X) sx3 _ rfl (lgR _ _ 2) (Nat.le_refl _) rfl fun J4 sx4 => ?_
          rw [lsR] at sx4
          have e4 : splice (setL 0) 0 (setL X) = setL X := splAll rfl
          replace sx4 : StB B H J4 (sP s t i a n cap os ps ++ [pB 77 q2 rule0, pB 27 q5 (faultL 0 0), pB 102 q3 (splice (setL 0) 0 (setL X))]) := sx4
          rw [e4] at sx4
          refine ⟨fun k hk => by rw [show k = s from hk]; exact (sx4.blk 0 rfl).trans (st2.blk 0 rfl).symm, ?_⟩
          (conv => whnf); refine stNB (cs := faultL c0 e0) sx4 _ rfl (lgR _ _ 1) (Nat.le_refl _) rfl fun J5 sx5 => ?_
          rw [lsR] at sx5
          have e5 : splice (faultL 0 0) 0 (faultL c0 e0) = faultL c0 e0 := splAll rfl
          replace sx5 : StB B H J5 (sP s t i a n cap os ps ++ [pB 77 q2 rule0, pB 27 q5 (splice (faultL 0 0) 0 (faultL c0 e0)), pB 102 q3 (setL X)]) := sx5
          rw [e5] at sx5
          refine ⟨fun k hk => by rw [show k = s from hk]; exact (sx5.blk 0 rfl).trans (st2.blk 0 rfl).symm, ?_⟩
          (conv => whnf)
          exact ⟨rfl, (q3, q5), rfl, sx5.subl ((List.append_sublist_append_left _).2 (List.Sublist.cons_cons _ (List.nil_sublist _))), sx5.blk _ (lgR _ _ 2), sx5.blk _ (lgR _ _ 1)⟩
      · refine valloc (setV 0) (setL 0) rfl rfl ?_
        intro q3 J1 gq0 gs0 gb0 ga0
        have sx1 := sx0.box gq0 gs0 gb0 ga0
        rw [List.append_assoc] at sx1
        replace sx1 : StB B H J1 (sP s t i a n cap os ps ++ [pB 77 q2 rule0, pB 102 q3 (setL 0)]) := sx1
        refine ⟨fun k hk => by rw [show k = s from hk]; exact (sx1.blk 0 rfl).trans (st2.blk 0 rfl).symm, ?_⟩
        (conv => whnf)
        refine ⟨?_, ?_⟩
        · refine VCall.mk (classRead_c (esc_at hE hEB sx1) (by omega) hi) ?_
          rintro _ J2 ⟨ag1, hR⟩
          obtain rfl := hX _ hR
          have sx2 := sx1.call ag1
          refine ⟨fun k hk => by rw [show k = s from hk]; exact (sx2.blk 0 rfl).trans (st2.blk 0 rfl).symm, ?_⟩
          (conv => whnf)
          refine valloc (faultA 0 0) (faultL 0 0) rfl rfl ?_
          intro q5 J3 gq2 gs2 gb2 ga2
          have sx3 := sx2.box gq2 gs2 gb2 ga2
          rw [List.append_assoc] at sx3
          replace sx3 : StB B H J3 (sP s t i a n cap os ps ++ [pB 77 q2 rule0, pB 102 q3 (setL 0), pB 27 q5 (faultL 0 0)]) := sx3
          refine ⟨fun k hk => by rw [show k = s from hk]; exact (sx3.blk 0 rfl).trans (st2.blk 0 rfl).symm, ?_⟩
          (conv => whnf)
          refine stNB (cs := setL X) sx3 _ rfl (lgR _ _ 1) (Nat.le_refl _) rfl fun J4 sx4 => ?_
          rw [lsR] at sx4
          have e4 : splice (setL 0) 0 (setL X) = setL X := splAll rfl
          replace sx4 : StB B H J4 (sP s t i a n cap os ps ++ [pB 77 q2 rule0, pB 102 q3 (splice (setL 0) 0 (setL X)), pB 27 q5 (faultL 0 0)]) := sx4
          rw [e4] at sx4
          refine ⟨fun k hk => by rw [show k = s from hk]; exact (sx4.blk 0 rfl).trans (st2.blk 0 rfl).symm, ?_⟩
          (conv => whnf); refine stNB (cs := faultL c0 e0) sx4 _ rfl (lgR _ _ 2) (Nat.le_refl _) rfl fun J5 sx5 => ?_
          rw [lsR] at sx5
          have e5 : splice (faultL 0 0) 0 (faultL c0 e0) = faultL c0 e0 := splAll rfl
          replace sx5 : StB B H J5 (sP s t i a n cap os ps ++ [pB 77 q2 rule0, pB 102 q3 (setL X), pB 27 q5 (splice (faultL 0 0) 0 (faultL c0 e0))]) := sx5
          rw [e5] at sx5
          refine ⟨fun k hk => by rw [show k = s from hk]; exact (sx5.blk 0 rfl).trans (st2.blk 0 rfl).symm, ?_⟩
          (conv => whnf)
          exact ⟨rfl, (q3, q5), rfl, sx5.subl ((List.append_sublist_append_left _).2 (List.Sublist.cons_cons _ (List.nil_sublist _))), sx5.blk _ (lgR _ _ 1), sx5.blk _ (lgR _ _ 2)⟩
        · refine valloc (faultA 0 0) (faultL 0 0) rfl rfl ?_
          intro q5 J2 gq1 gs1 gb1 ga1
          have sx2 := sx1.box gq1 gs1 gb1 ga1
          rw [List.append_assoc] at sx2
          replace sx2 : StB B H J2 (sP s t i a n cap os ps ++ [pB 77 q2 rule0, pB 102 q3 (setL 0), pB 27 q5 (faultL 0 0)]) := sx2
          refine ⟨fun k hk => by rw [show k = s from hk]; exact (sx2.blk 0 rfl).trans (st2.blk 0 rfl).symm, ?_⟩
          (conv => whnf)
          refine VCall.mk (classRead_c (esc_at hE hEB sx2) (by omega) hi) ?_
          rintro _ J3 ⟨ag2, hR⟩
          obtain rfl := hX _ hR
          have sx3 := sx2.call ag2
          refine ⟨fun k hk => by rw [show k = s from hk]; exact (sx3.blk 0 rfl).trans (st2.blk 0 rfl).symm, ?_⟩
          (conv => whnf)
          refine stNB (cs := setL X) sx3 _ rfl (lgR _ _ 1) (Nat.le_refl _) rfl fun J4 sx4 => ?_
          rw [lsR] at sx4
          have e4 : splice (setL 0) 0 (setL X) = setL X := splAll rfl
          replace sx4 : StB B H J4 (sP s t i a n cap os ps ++ [pB 77 q2 rule0, pB 102 q3 (splice (setL 0) 0 (setL X)), pB 27 q5 (faultL 0 0)]) := sx4
          rw [e4] at sx4
          refine ⟨fun k hk => by rw [show k = s from hk]; exact (sx4.blk 0 rfl).trans (st2.blk 0 rfl).symm, ?_⟩
          (conv => whnf); refine stNB (cs := faultL c0 e0) sx4 _ rfl (lgR _ _ 2) (Nat.le_refl _) rfl fun J5 sx5 => ?_
          rw [lsR] at sx5
          have e5 : splice (faultL 0 0) 0 (faultL c0 e0) = faultL c0 e0 := splAll rfl
          replace sx5 : StB B H J5 (sP s t i a n cap os ps ++ [pB 77 q2 rule0, pB 102 q3 (setL X), pB 27 q5 (splice (faultL 0 0) 0 (faultL c0 e0))]) := sx5
          rw [e5] at sx5
          refine ⟨fun k hk => by rw [show k = s from hk]; exact (sx5.blk 0 rfl).trans (st2.blk 0 rfl).symm, ?_⟩
          (conv => whnf)
          exact ⟨rfl, (q3, q5), rfl, sx5.subl ((List.append_sublist_append_left _).2 (List.Sublist.cons_cons _ (List.nil_sublist _))), sx5.blk _ (lgR _ _ 1), sx5.blk _ (lgR _ _ 2)⟩
      · refine valloc (faultA 0 0) (faultL 0 0) rfl rfl ?_
        intro q5 J1 gq0 gs0 gb0 ga0
        have sx1 := sx0.box gq0 gs0 gb0 ga0
        rw [List.append_assoc] at sx1
        replace sx1 : StB B H J1 (sP s t i a n cap os ps ++ [pB 77 q2 rule0, pB 27 q5 (faultL 0 0)]) := sx1
        refine ⟨fun k hk => by rw [show k = s from hk]; exact (sx1.blk 0 rfl).trans (st2.blk 0 rfl).symm, ?_⟩
        (conv => whnf)
        refine ⟨?_, ?_⟩
        · refine VCall.mk (classRead_c (esc_at hE hEB sx1) (by omega) hi) ?_
          rintro _ J2 ⟨ag1, hR⟩
          obtain rfl := hX _ hR
          have sx2 := sx1.call ag1
          refine ⟨fun k hk => by rw [show k = s from hk]; exact (sx2.blk 0 rfl).trans (st2.blk 0 rfl).symm, ?_⟩
          (conv => whnf)
          refine valloc (setV 0) (setL 0) rfl rfl ?_
          intro q3 J3 gq2 gs2 gb2 ga2
          have sx3 := sx2.box gq2 gs2 gb2 ga2
          rw [List.append_assoc] at sx3
          replace sx3 : StB B H J3 (sP s t i a n cap os ps ++ [pB 77 q2 rule0, pB 27 q5 (faultL 0 0), pB 102 q3 (setL 0)]) := sx3
          refine ⟨fun k hk => by rw [show k = s from hk]; exact (sx3.blk 0 rfl).trans (st2.blk 0 rfl).symm, ?_⟩
          (conv => whnf)
          refine stNB (cs := setL X) sx3 _ rfl (lgR _ _ 2) (Nat.le_refl _) rfl fun J4 sx4 => ?_
          rw [lsR] at sx4
          have e4 : splice (setL 0) 0 (setL X) = setL X := splAll rfl
          replace sx4 : StB B H J4 (sP s t i a n cap os ps ++ [pB 77 q2 rule0, pB 27 q5 (faultL 0 0), pB 102 q3 (splice (setL 0) 0 (setL X))]) := sx4
          rw [e4] at sx4
          refine ⟨fun k hk => by rw [show k = s from hk]; exact (sx4.blk 0 rfl).trans (st2.blk 0 rfl).symm, ?_⟩
          (conv => whnf); refine stNB (cs := faultL c0 e0) sx4 _ rfl (lgR _ _ 1) (Nat.le_refl _) rfl fun J5 sx5 => ?_
          rw [lsR] at sx5
          have e5 : splice (faultL 0 0) 0 (faultL c0 e0) = faultL c0 e0 := splAll rfl
          replace sx5 : StB B H J5 (sP s t i a n cap os ps ++ [pB 77 q2 rule0, pB 27 q5 (splice (faultL 0 0) 0 (faultL c0 e0)), pB 102 q3 (setL X)]) := sx5
          rw [e5] at sx5
          refine ⟨fun k hk => by rw [show k = s from hk]; exact (sx5.blk 0 rfl).trans (st2.blk 0 rfl).symm, ?_⟩
          (conv => whnf)
          exact ⟨rfl, (q3, q5), rfl, sx5.subl ((List.append_sublist_append_left _).2 (List.Sublist.cons_cons _ (List.nil_sublist _))), sx5.blk _ (lgR _ _ 2), sx5.blk _ (lgR _ _ 1)⟩
        · refine valloc (setV 0) (setL 0) rfl rfl ?_
          intro q3 J2 gq1 gs1 gb1 ga1
          have sx2 := sx1.box gq1 gs1 gb1 ga1
          rw [List.append_assoc] at sx2
          replace sx2 : StB B H J2 (sP s t i a n cap os ps ++ [pB 77 q2 rule0, pB 27 q5 (faultL 0 0), pB 102 q3 (setL 0)]) := sx2
          refine ⟨fun k hk => by rw [show k = s from hk]; exact (sx2.blk 0 rfl).trans (st2.blk 0 rfl).symm, ?_⟩
          (conv => whnf)
          refine VCall.mk (classRead_c (esc_at hE hEB sx2) (by omega) hi) ?_
          rintro _ J3 ⟨ag2, hR⟩
          obtain rfl := hX _ hR
          have sx3 := sx2.call ag2
          refine ⟨fun k hk => by rw [show k = s from hk]; exact (sx3.blk 0 rfl).trans (st2.blk 0 rfl).symm, ?_⟩
          (conv => whnf)
          refine stNB (cs := setL X) sx3 _ rfl (lgR _ _ 2) (Nat.le_refl _) rfl fun J4 sx4 => ?_
          rw [lsR] at sx4
          have e4 : splice (setL 0) 0 (setL X) = setL X := splAll rfl
          replace sx4 : StB B H J4 (sP s t i a n cap os ps ++ [pB 77 q2 rule0, pB 27 q5 (faultL 0 0), pB 102 q3 (splice (setL 0) 0 (setL X))]) := sx4
          rw [e4] at sx4
          refine ⟨fun k hk => by rw [show k = s from hk]; exact (sx4.blk 0 rfl).trans (st2.blk 0 rfl).symm, ?_⟩
          (conv => whnf); refine stNB (cs := faultL c0 e0) sx4 _ rfl (lgR _ _ 1) (Nat.le_refl _) rfl fun J5 sx5 => ?_
          rw [lsR] at sx5
          have e5 : splice (faultL 0 0) 0 (faultL c0 e0) = faultL c0 e0 := splAll rfl
          replace sx5 : StB B H J5 (sP s t i a n cap os ps ++ [pB 77 q2 rule0, pB 27 q5 (splice (faultL 0 0) 0 (faultL c0 e0)), pB 102 q3 (setL X)]) := sx5
          rw [e5] at sx5
          refine ⟨fun k hk => by rw [show k = s from hk]; exact (sx5.blk 0 rfl).trans (st2.blk 0 rfl).symm, ?_⟩
          (conv => whnf)
          exact ⟨rfl, (q3, q5), rfl, sx5.subl ((List.append_sublist_append_left _).2 (List.Sublist.cons_cons _ (List.nil_sublist _))), sx5.blk _ (lgR _ _ 2), sx5.blk _ (lgR _ _ 1)⟩
    · rintro ⟨q3, q5⟩ G junk ⟨stg, hb3, hb5⟩
      (conv => whnf); refine VSeqP.run ?_
      (conv => whnf); refine ldN (cs := faultL c0 e0) ag27 (hb5.cells (fun j v hv => by rw [Nat.zero_add]; exact hv)) trivial ?_
      (conv => whnf); refine vbuildS Tryz.underlying27 rfl _ rfl (faultL 0 0) rfl ?_
      (conv => whnf); refine ft_neq (by omega) (by omega) (by decide) (by decide) ?_
      rcases hj with ⟨hr, rfl⟩ | ⟨hr, rfl, rfl⟩
      · rw [decide_eq_false (by omega)]
        (conv => whnf); refine ldN (cs := faultL 10 e0) ag27 (hb5.cells (fun j v hv => by rw [Nat.zero_add]; exact hv)) trivial ?_
        (conv => whnf)
        exact ⟨10, e0, prun_err hi (pstep_clsE hfb h40 hr), rfl, stg.old⟩
      · have hok := readSet_ok hr
        rw [decide_eq_true ⟨rfl, rfl⟩]
        (conv => whnf); refine VC.fa fl74_1 ?_
        (conv => whnf); refine st1Ba stg 0 ct3 rfl (by simp) rfl fun G2 sg2 ja2 js2 => ?_
        replace sg2 : StB B H G2 (sP s t j a n cap os ps ++ [pB 77 q2 rule0]) := sg2
        have hb3' := hb3.agr ja2 (hb3.ne (stg.blk 0 rfl) (by decide))
        (conv => whnf); refine ldN (cs := setL X) ag102 (ld_set hb3') trivial ?_
        (conv => whnf); refine vbuildS Tryz.underlying130 rfl _ rfl (setL X) rfl ?_
        (conv => whnf); refine VCallP.of (VCall.mk (leaf_c (r := .cls X) sg2 rfl) ?_)
        rintro _ G3 ⟨B1, f1, rfl, s1, a3, sg3, gs⟩
        obtain ⟨g1, c1, rfl⟩ := gs.fn
        (conv => whnf); refine stNBa (cs := ruleL (.cls X) (.func (.func g1) #[] c1)) sg3 _ rfl (lgR _ _ 0) (by simp [ruleL, rule0]) rfl fun G4 sg4 ja4 js4 => ?_
        rw [lsR, spl2 rfl] at sg4
        (conv => whnf); refine ldN (cs := ruleL (.cls X) (.func (.func g1) #[] c1)) ag77 (ld_rule (sg4.blk _ (lgR _ _ 0))) trivial ?_
        exact ⟨j, .cls X, hok.1, hok.2, prun_step hi (pstep_cls hfb h40 hr), B1, _, rfl, s1, (sg2.old.trans (a3.mono fun k hk => sg2.up hk)).trans fun k hk => sg4.old k (s1 k hk), ⟨a, n, cap, sg4.lft.rebase⟩, gs.frame sg4.old fun k hk => hk⟩
end Go.Proofs.YtlnmhfhdjnenoaaGreatDoor
/- regex.scanner: row: the walk. -/
set_option linter.unusedVariables false
set_option linter.unusedSimpArgs false
set_option maxRecDepth 100000
namespace Go.Proofs.YtlnmhfhdjnenoaaGreatDoor
open Go.VC Go.Lib
structure RowI (B : Nat → Prop) (H : Heap) (s q2 q3 i : Nat) (t : ByteArray) (os : List Int) (ps : List Pc) (f : AF) (fs : List AF) (j : Nat) (any : Bool) (G : Heap) : Prop where
  ex : ∃ (f' : AF) (r : ReM) (B' : Nat → Prop) (fn : Value) (a : Option Addr) (n cap : Nat), i ≤ j ∧ j ≤ t.size ∧ prun t ⟨i, f, fs⟩ = prun t ⟨j, f', fs⟩ ∧ (settleF f').row = (if any then some r else none) ∧
    (any = false → r = .eps ∧ f'.factor = none) ∧ (any = true → postB (bt t j) = false) ∧ f'.alt = f.alt ∧ f'.meet = f.meet ∧ f'.sign = f.sign ∧ f'.place = f.place ∧
    (∀ k, B k → B' k) ∧ Agr B H G ∧ StB B' G G (sP s t j a n cap os ps ++ [pB 77 q2 rule0, pB 77 q3 (ruleL r fn)]) ∧ GrowV B' G fn r
theorem esc_agr {B : Nat → Prop} {H H' : Heap} (hE : EscH H) (hB : B 0) (ha : Agr B H H') : EscH H' := by
  refine ⟨hE.1.eq (ha _ hB), ?_⟩
  have h := ha _ hB
  rw [Array.getElem?_eq_getElem hE.2] at h
  exact (Array.getElem?_eq_some_iff.1 h).1
theorem settle_none {f : AF} (h : f.factor = none) : settleF f = f := by unfold settleF; rw [h]
theorem settle_same (f : AF) : (settleF f).alt = f.alt ∧ (settleF f).meet = f.meet ∧ (settleF f).sign = f.sign ∧ (settleF f).place = f.place := by
  unfold settleF
  split <;> exact ⟨rfl, rfl, rfl, rfl⟩
set_option maxHeartbeats 16000000 in
theorem row_c {B : Nat → Prop} {H : Heap} {s i : Nat} {t : ByteArray} {os : List Int} {ps : List Pc} {f : AF} {fs : List AF} (hE : EscH H) (hEB : B 0) (ht : t.size ≤ 1048576) (hi : i ≤ t.size) (hos : os.length = fs.length) (hfs : fs.length ≤ 1000)
    (hrow : f.row = none) (hfac : f.factor = none) (IH : ∀ i', i < i' → AltSpec t i') (sc : Sc B H s t i os ps) :
    FnOkP Tryz.prog 78 #[.pointer (some ⟨s, 0, none⟩)] H
      (fun v H' => ∃ j f' r, i ≤ j ∧ j ≤ t.size ∧ (j = t.size ∨ bt t j = 124 ∨ bt t j = 38 ∨ bt t j = 45 ∨ bt t j = 41) ∧ prun t ⟨i, f, fs⟩ = prun t ⟨j, f', fs⟩ ∧ (settleF f').row.getD .eps = r ∧
        f'.alt = f.alt ∧ f'.meet = f.meet ∧ f'.sign = f.sign ∧ f'.place = f.place ∧ SR B H s t j os ps r v H')
      (fun x H' => SE B H t ⟨i, f, fs⟩ x H') := by
  obtain ⟨a, n, cap, st⟩ := sc
  refine FnOkP.of_vc Tryz.func78 rfl (Tryz.call78 _) ?_
  (conv => whnf); refine valloc (.agg rule0.toArray) rule0 rule_z rfl ?_
  intro q2 H1 hq1 hs1 hb1 ha1
  have st1 := st.box hq1 hs1 hb1 ha1
  (conv => whnf); refine vbuildS Tryz.underlying127 rfl _ rfl [] rfl ?_
  (conv => whnf); refine VCallP.of (VCall.mk (leaf_c (r := .eps) st1 rfl) ?_)
  rintro _ H2 ⟨B1, f1, rfl, s1, a2, st2, gs⟩
  obtain ⟨g1, c1, rfl⟩ := gs.fn
  (conv => whnf); refine valloc (.agg rule0.toArray) rule0 rule_z rfl ?_
  intro q3 H3 hq3 hs3 hb3 ha3
  have st3 := st2.box hq3 hs3 hb3 ha3
  rw [List.append_assoc] at st3
  replace st3 : StB B1 H2 H3 (sP s t i a n cap os ps ++ [pB 77 q2 rule0, pB 77 q3 rule0]) := st3
  (conv => whnf); refine stNBa (cs := ruleL .eps (.func (.func g1) #[] c1)) st3 _ rfl (lgR _ _ 1) (by simp [ruleL, rule0]) rfl fun H4 st4 ja4 js4 => ?_
  rw [lsR, spl2 rfl] at st4
  replace st4 : StB B1 H2 H4 (sP s t i a n cap os ps ++ [pB 77 q2 rule0, pB 77 q3 (ruleL .eps (.func (.func g1) #[] c1))]) := st4
  (conv => whnf)
  refine VLoopP.mk [4] (fun x : Nat × Bool => match x with | (_, b) => [.bool b]) (fun x G => match x with | (j, b) => RowI B H s q2 q3 i t os ps f fs j b G) (fun x _ => match x with | (j, _) => t.size - j) ?_ ?_
  · (conv => whnf)
    refine ⟨(i, false), rfl, ⟨f, .eps, B1, .func (.func g1) #[] c1, a, n, cap, Nat.le_refl _, hi, rfl, by rw [settle_none hfac]; exact hrow, fun _ => ⟨rfl, hfac⟩, fun h => Bool.noConfusion h, rfl, rfl, rfl, rfl, s1, ?_, st4.rebase, gs.frame st4.old fun k hk => hk⟩⟩
    exact (st1.old.trans (a2.mono fun k hk => st1.up hk)).trans fun k hk => st4.old k (s1 k hk)
  · rintro ⟨j, any⟩ G junk ⟨f', r, B2, f2, a2, n2, cap2, hij, hj, hpr, hr, hany, hpo, e1, e2, e3, e4, s2, ag, stg, gv⟩
    obtain ⟨gg, cc, rfl⟩ := gv.fn
    clear st st1 st2 st3 st4 gs hb1 hb3 ha1 ha3
    have hgd : (settleF f').row.getD .eps = r := by
      rw [hr]
      cases any with
      | false => exact (hany rfl).1.symm
      | true => rfl
    (conv => whnf); refine VCallP.of (pures (ended_p (stg.blk 0 rfl)) fun G1 hg1 => ?_)
    have sg1 := stg.call hg1
    by_cases h0 : j < t.size
    · rw [decide_eq_false (show ¬ t.size ≤ j by omega)]
      (conv => whnf); refine VCallP.of (pures (scnext_p (sg1.blk 0 rfl) h0) fun G2 hg2 => ?_)
      have sg2 := sg1.call hg2
      (conv => whnf); refine VSeqP.run ?_
      (conv => whnf)
      by_cases h124 : bt t j = 124
      · have d : (((bt t j : Nat) : Int) == 124) = true := by rw [h124]; rfl
        (conv => whnf); rw [d]
        clear d
        (conv => whnf); refine ldN (cs := ruleL r (.func (.func gg) #[] cc)) ag77 (ld_rule (sg2.blk _ (lgR _ _ 1))) trivial ?_
        (conv => whnf); refine stNBa (cs := ruleL r (.func (.func gg) #[] cc)) sg2 _ rfl (lgR _ _ 0) (by simp [ruleL, rule0]) rfl fun G9 sg9 ja js => ?_
        rw [lsR, spl2 rfl] at sg9
        (conv => whnf); refine ldN (cs := ruleL r (.func (.func gg) #[] cc)) ag77 (ld_rule (sg9.blk _ (lgR _ _ 0))) trivial ?_
        exact ⟨j, f', r, hij, hj, .inr (.inl h124), hpr, hgd, e1, e2, e3, e4, B2, _, rfl, s2, ag.trans fun k hk => sg9.old k (s2 k hk), ⟨a2, n2, cap2, sg9.lft.rebase⟩, gv.frame sg9.old fun k hk => hk⟩
      · have d : (((bt t j : Nat) : Int) == 124) = false := nofl h124
        (conv => whnf); rw [d]
        clear d
        by_cases h38 : bt t j = 38
        · have d : (((bt t j : Nat) : Int) == 38) = true := by rw [h38]; rfl
          (conv => whnf); rw [d]
          clear d
          (conv => whnf); refine ldN (cs := ruleL r (.func (.func gg) #[] cc)) ag77 (ld_rule (sg2.blk _ (lgR _ _ 1))) trivial ?_
          (conv => whnf); refine stNBa (cs := ruleL r (.func (.func gg) #[] cc)) sg2 _ rfl (lgR _ _ 0) (by simp [ruleL, rule0]) rfl fun G9 sg9 ja js => ?_
          rw [lsR, spl2 rfl] at sg9
          (conv => whnf); refine ldN (cs := ruleL r (.func (.func gg) #[] cc)) ag77 (ld_rule (sg9.blk _ (lgR _ _ 0))) trivial ?_
          exact ⟨j, f', r, hij, hj, .inr (.inr (.inl h38)), hpr, hgd, e1, e2, e3, e4, B2, _, rfl, s2, ag.trans fun k hk => sg9.old k (s2 k hk), ⟨a2, n2, cap2, sg9.lft.rebase⟩, gv.frame sg9.old fun k hk => hk⟩
        · have d : (((bt t j : Nat) : Int) == 38) = false := nofl h38
          (conv => whnf); rw [d]
          clear d
          by_cases h45 : bt t j = 45
          · have d : (((bt t j : Nat) : Int) == 45) = true := by rw [h45]; rfl
            (conv => whnf); rw [d]
            clear d
            (conv => whnf); refine ldN (cs := ruleL r (.func (.func gg) #[] cc)) ag77 (ld_rule (sg2.blk _ (lgR _ _ 1))) trivial ?_
            (conv => whnf); refine stNBa (cs := ruleL r (.func (.func gg) #[] cc)) sg2 _ rfl (lgR _ _ 0) (by simp [ruleL, rule0]) rfl fun G9 sg9 ja js => ?_
            rw [lsR, spl2 rfl] at sg9
            (conv => whnf); refine ldN (cs := ruleL r (.func (.func gg) #[] cc)) ag77 (ld_rule (sg9.blk _ (lgR _ _ 0))) trivial ?_
            exact ⟨j, f', r, hij, hj, .inr (.inr (.inr (.inl h45))), hpr, hgd, e1, e2, e3, e4, B2, _, rfl, s2, ag.trans fun k hk => sg9.old k (s2 k hk), ⟨a2, n2, cap2, sg9.lft.rebase⟩, gv.frame sg9.old fun k hk => hk⟩
          · have d : (((bt t j : Nat) : Int) == 45) = false := nofl h45
            (conv => whnf); rw [d]
            clear d
            by_cases h41 : bt t j = 41
            · have d : (((bt t j : Nat) : Int) == 41) = true := by rw [h41]; rfl
              (conv => whnf); rw [d]
              clear d
              (conv => whnf); refine ldN (cs := ruleL r (.func (.func gg) #[] cc)) ag77 (ld_rule (sg2.blk _ (lgR _ _ 1))) trivial ?_
              (conv => whnf); refine stNBa (cs := ruleL r (.func (.func gg) #[] cc)) sg2 _ rfl (lgR _ _ 0) (by simp [ruleL, rule0]) rfl fun G9 sg9 ja js => ?_
              rw [lsR, spl2 rfl] at sg9
              (conv => whnf); refine ldN (cs := ruleL r (.func (.func gg) #[] cc)) ag77 (ld_rule (sg9.blk _ (lgR _ _ 0))) trivial ?_
              exact ⟨j, f', r, hij, hj, .inr (.inr (.inr (.inr h41))), hpr, hgd, e1, e2, e3, e4, B2, _, rfl, s2, ag.trans fun k hk => sg9.old k (s2 k hk), ⟨a2, n2, cap2, sg9.lft.rebase⟩, gv.frame sg9.old fun k hk => hk⟩
            · have d : (((bt t j : Nat) : Int) == 41) = false := nofl h41
              (conv => whnf); rw [d]
              clear d
              (conv => whnf); try (refine VSeqP.run ?_)
              by_cases h42 : bt t j = 42
              · have d : (((bt t j : Nat) : Int) == 42) = true := by rw [h42]; rfl
                (conv => whnf); rw [d]
                clear d
                (conv => whnf); refine VC.fa fl74_1 ?_
                (conv => whnf); refine ld1 (v := .int .i64 ((j : Nat) : Int)) ct3 (by rw [(sg2.blk 0 rfl).cell]; rfl) trivial ?_
                (conv => whnf); refine VCallP.mk (sfail_p (c := 20) (e := j)) (fun _ _ h => h.elim) ?_
                rintro _ _ ⟨rfl, rfl⟩
                have hfn : f'.factor = none := by
                  cases any with
                  | false => exact (hany rfl).2
                  | true => have := hpo rfl; rw [h42] at this; exact absurd this (by decide)
                exact ⟨20, j, hpr.trans (prun_err (s := ⟨j, f', fs⟩) h0 (pstep_post0 (by rw [h42]; rfl) hfn)), rfl, ag.trans fun k hk => sg2.old k (s2 k hk)⟩
              · have d : (((bt t j : Nat) : Int) == 42) = false := nofl h42
                (conv => whnf); rw [d]
                clear d
                by_cases h43 : bt t j = 43
                · have d : (((bt t j : Nat) : Int) == 43) = true := by rw [h43]; rfl
                  (conv => whnf); rw [d]
                  clear d
                  (conv => whnf); refine VC.fa fl74_1 ?_
                  (conv => whnf); refine ld1 (v := .int .i64 ((j : Nat) : Int)) ct3 (by rw [(sg2.blk 0 rfl).cell]; rfl) trivial ?_
                  (conv => whnf); refine VCallP.mk (sfail_p (c := 20) (e := j)) (fun _ _ h => h.elim) ?_
                  rintro _ _ ⟨rfl, rfl⟩
                  have hfn : f'.factor = none := by
                    cases any with
                    | false => exact (hany rfl).2
                    | true => have := hpo rfl; rw [h43] at this; exact absurd this (by decide)
                  exact ⟨20, j, hpr.trans (prun_err (s := ⟨j, f', fs⟩) h0 (pstep_post0 (by rw [h43]; rfl) hfn)), rfl, ag.trans fun k hk => sg2.old k (s2 k hk)⟩
                · have d : (((bt t j : Nat) : Int) == 43) = false := nofl h43
                  (conv => whnf); rw [d]
                  clear d
                  by_cases h63 : bt t j = 63
                  · have d : (((bt t j : Nat) : Int) == 63) = true := by rw [h63]; rfl
                    (conv => whnf); rw [d]
                    clear d
                    (conv => whnf); refine VC.fa fl74_1 ?_
                    (conv => whnf); refine ld1 (v := .int .i64 ((j : Nat) : Int)) ct3 (by rw [(sg2.blk 0 rfl).cell]; rfl) trivial ?_
                    (conv => whnf); refine VCallP.mk (sfail_p (c := 20) (e := j)) (fun _ _ h => h.elim) ?_
                    rintro _ _ ⟨rfl, rfl⟩
                    have hfn : f'.factor = none := by
                      cases any with
                      | false => exact (hany rfl).2
                      | true => have := hpo rfl; rw [h63] at this; exact absurd this (by decide)
                    exact ⟨20, j, hpr.trans (prun_err (s := ⟨j, f', fs⟩) h0 (pstep_post0 (by rw [h63]; rfl) hfn)), rfl, ag.trans fun k hk => sg2.old k (s2 k hk)⟩
                  · have d : (((bt t j : Nat) : Int) == 63) = false := nofl h63
                    (conv => whnf); rw [d]
                    clear d
                    by_cases h123 : bt t j = 123
                    · have d : (((bt t j : Nat) : Int) == 123) = true := by rw [h123]; rfl
                      (conv => whnf); rw [d]
                      clear d
                      (conv => whnf); refine VC.fa fl74_1 ?_
                      (conv => whnf); refine ld1 (v := .int .i64 ((j : Nat) : Int)) ct3 (by rw [(sg2.blk 0 rfl).cell]; rfl) trivial ?_
                      (conv => whnf); refine VCallP.mk (sfail_p (c := 20) (e := j)) (fun _ _ h => h.elim) ?_
                      rintro _ _ ⟨rfl, rfl⟩
                      have hfn : f'.factor = none := by
                        cases any with
                        | false => exact (hany rfl).2
                        | true => have := hpo rfl; rw [h123] at this; exact absurd this (by decide)
                      exact ⟨20, j, hpr.trans (prun_err (s := ⟨j, f', fs⟩) h0 (pstep_post0 (by rw [h123]; rfl) hfn)), rfl, ag.trans fun k hk => sg2.old k (s2 k hk)⟩
                    · have d : (((bt t j : Nat) : Int) == 123) = false := nofl h123
                      (conv => whnf); rw [d]
                      clear d
                      (conv => whnf); try (refine VSeqP.run ?_)
                      have hfb : firstB (bt t j) := ⟨h124, h38, h45, h41, postB_no h42 h43 h63 h123⟩
                      (conv => whnf); refine VCallP.mk (atom_c (f := f') (fs := fs) (esc_agr hE hEB (ag.trans fun k hk => sg2.old k (s2 k hk))) (s2 _ hEB) ht h0 hos hfs hfb (fun i' hi' => IH i' (by omega)) (B := B2) (ps := ps ++ [pB 77 q2 rule0, pB 77 q3 (ruleL r (.func (.func gg) #[] cc))]) ⟨a2, n2, cap2, sg2.rebase⟩) ?_ ?_
                      rotate_left
                      · intro x G3 h
                        exact h.from hpr (ag.trans fun k hk => sg2.old k (s2 k hk)) s2
                      rintro _ G3 ⟨j1, r1, hj1, hj1t, hp1, ⟨B3, f3, rfl, s3, a3, ⟨a4, n4, cap4, sg3⟩, gv1⟩⟩
                      have ag2 : Agr B H G2 := ag.trans fun k hk => sg2.old k (s2 k hk)
                      have ag3 : Agr B H G3 := ag2.trans fun k hk => a3 k (s2 k hk)
                      have gv3 : GrowV B3 G3 (.func (.func gg) #[] cc) r := gv.frame (sg2.old.trans a3) s3
                      replace sg3 : StB B3 G3 G3 (sP s t j1 a4 n4 cap4 os ps ++ [pB 77 q2 rule0, pB 77 q3 (ruleL r (.func (.func gg) #[] cc))]) := sg3
                      (conv => whnf); refine VCallP.mk (repeats_c (k := 0) (f := { settleF f' with factor := some r1 }) (fs := fs) (by omega) hj1t rfl sg3 rfl gv1) ?_ ?_
                      rotate_left
                      · rintro x G4 ⟨c, p, h1, h2, h3⟩
                        exact ⟨c, p, (hpr.trans hp1).trans h1, h2, ag3.trans fun k hk => h3 k (s3 k (s2 k hk))⟩
                      rintro _ G4 ⟨j2, r2, hj2, hj2t, hpo2, hp2, ⟨B4, f4, rfl, s4, a5, sg4, gv2⟩⟩
                      have ag4 : Agr B H G4 := ag3.trans fun k hk => a5 k (s3 k (s2 k hk))
                      have gv4 : GrowV B4 G4 (.func (.func gg) #[] cc) r := gv3.frame a5 s4
                      obtain ⟨g4, c4, rfl⟩ := gv2.fn
                      replace sg4 : StB B4 G4 G4 (sP s t j2 a4 n4 cap4 os ps ++ [pB 77 q2 rule0, pB 77 q3 (ruleL r (.func (.func gg) #[] cc))]) := sg4
                      (conv => whnf); refine valloc (.agg rule0.toArray) rule0 rule_z rfl ?_
                      intro q5 G5 hq5 hs5 hb5 ha5
                      have sg5 := sg4.box hq5 hs5 hb5 ha5
                      rw [List.append_assoc] at sg5
                      (conv => whnf); refine stNBa (cs := ruleL r2 (.func (.func g4) #[] c4)) sg5 _ rfl (lgR _ _ 2) (by simp [ruleL, rule0]) rfl fun G6 sg6 ja6 js6 => ?_
                      rw [lsR, spl2 rfl] at sg6
                      replace sg6 : StB B4 G4 G6 (sP s t j2 a4 n4 cap4 os ps ++ [pB 77 q2 rule0, pB 77 q3 (ruleL r (.func (.func gg) #[] cc)), pB 77 q5 (ruleL r2 (.func (.func g4) #[] c4))]) := sg6
                      have ag6 : Agr B H G6 := ag4.trans fun k hk => sg6.old k (s4 k (s3 k (s2 k hk)))
                      have gv6 := gv4.frame sg6.old fun k hk => hk
                      have gv26 := gv2.frame sg6.old fun k hk => hk
                      have hp9 : prun t ⟨i, f, fs⟩ = prun t ⟨j2, { settleF f' with factor := some r2 }, fs⟩ := hpr.trans (hp1.trans hp2)
                      obtain ⟨z1, z2, z3, z4⟩ := settle_same f'
                      (conv => whnf)
                      cases any with
                      | false =>
                        replace hr : (settleF f').row = none := hr
                        (conv => whnf); try (refine VSeqP.run ?_)
                        (conv => whnf); refine ldN (cs := ruleL (r2) (.func (.func g4) #[] c4)) ag77 (ld_rule (sg6.blk _ (lgR _ _ 2))) trivial ?_
                        (conv => whnf); refine stNBa (cs := ruleL (r2) (.func (.func g4) #[] c4)) sg6 _ rfl (lgR _ _ 1) (by simp [ruleL]) rfl fun G9 sg9 ja9 js9 => ?_
                        rw [lsR] at sg9
                        have e9 : splice (ruleL r (.func (.func gg) #[] cc)) 0 (ruleL (r2) (.func (.func g4) #[] c4)) = ruleL (r2) (.func (.func g4) #[] c4) := spl2 rfl
                        replace sg9 : StB B4 _ G9 (sP s t j2 a4 n4 cap4 os ps ++ [pB 77 q2 rule0, pB 77 q3 (splice (ruleL r (.func (.func gg) #[] cc)) 0 (ruleL (r2) (.func (.func g4) #[] c4))), pB 77 q5 (ruleL (r2) (.func (.func g4) #[] c4))]) := sg9
                        rw [e9] at sg9
                        (conv => whnf)
                        refine ⟨rfl, (j2, true), rfl, ⟨{ settleF f' with factor := some r2 }, r2, B4, .func (.func g4) #[] c4, a4, n4, cap4, by omega, hj2t, hp9, ?_, fun h => Bool.noConfusion h, fun _ => hpo2, z1.trans e1, z2.trans e2, z3.trans e3, z4.trans e4, (fun k hk => s4 k (s3 k (s2 k hk))), ?_, (sg9.subl ((List.append_sublist_append_left _).2 (List.Sublist.cons_cons _ (List.Sublist.cons_cons _ (List.nil_sublist _))))).rebase, ?_⟩, ?_⟩
                        · show some (catO (settleF f').row r2) = some (r2)
                          rw [hr]; rfl
                        · exact ag6.trans (ja9.mono fun k hk => fun e => (sg6.rng _ (List.mem_append_right _ (List.mem_cons_of_mem _ List.mem_cons_self)) k e).1 ((fun k hk => s4 k (s3 k (s2 k hk))) k hk))
                        · exact gv26.frame (ja9.mono fun k hk => fun e => (sg6.rng _ (List.mem_append_right _ (List.mem_cons_of_mem _ List.mem_cons_self)) k e).1 hk) fun k hk => hk
                        · show t.size - j2 < t.size - j; omega
                      | true =>
                        replace hr : (settleF f').row = some r := hr
                        (conv => whnf); try (refine VSeqP.run ?_)
                        (conv => whnf); refine ldN (cs := ruleL r (.func (.func gg) #[] cc)) ag77 (ld_rule (sg6.blk _ (lgR _ _ 1))) trivial ?_
                        (conv => whnf); refine ldN (cs := ruleL r2 (.func (.func g4) #[] c4)) ag77 (ld_rule (sg6.blk _ (lgR _ _ 2))) trivial ?_
                        (conv => whnf); refine VCallP.of (VCall.mk (join_c .cat sg6 gv6 gv26) ?_)
                        rintro _ G7 ⟨B7, f7, rfl, s7, a7, sg7, gj⟩
                        obtain ⟨g7, c7, rfl⟩ := gj.fn
                        (conv => whnf); refine stNBa (cs := ruleL (.cat r r2) (.func (.func g7) #[] c7)) sg7 _ rfl (lgR _ _ 2) (by simp [ruleL]) rfl fun G8 sg8 ja8 js8 => ?_
                        rw [lsR] at sg8
                        have e8 : splice (ruleL r2 (.func (.func g4) #[] c4)) 0 (ruleL (.cat r r2) (.func (.func g7) #[] c7)) = ruleL (.cat r r2) (.func (.func g7) #[] c7) := spl2 rfl
                        replace sg8 : StB B7 G7 G8 (sP s t j2 a4 n4 cap4 os ps ++ [pB 77 q2 rule0, pB 77 q3 (ruleL r (.func (.func gg) #[] cc)), pB 77 q5 (splice (ruleL r2 (.func (.func g4) #[] c4)) 0 (ruleL (.cat r r2) (.func (.func g7) #[] c7)))]) := sg8
                        rw [e8] at sg8
                        have s8 : ∀ k, B k → B7 k := fun k hk => s7 k (s4 k (s3 k (s2 k hk)))
                        have ag8 : Agr B H G8 := (ag6.trans (a7.mono fun k hk => sg6.up (s4 k (s3 k (s2 k hk))))).trans fun k hk => sg8.old k (s8 k hk)
                        have gj8 := gj.frame sg8.old fun k hk => hk
                        (conv => whnf); refine ldN (cs := ruleL (.cat r r2) (.func (.func g7) #[] c7)) ag77 (ld_rule (sg8.blk _ (lgR _ _ 2))) trivial ?_
                        (conv => whnf); refine stNBa (cs := ruleL (.cat r r2) (.func (.func g7) #[] c7)) sg8 _ rfl (lgR _ _ 1) (by simp [ruleL]) rfl fun G9 sg9 ja9 js9 => ?_
                        rw [lsR] at sg9
                        have e9 : splice (ruleL r (.func (.func gg) #[] cc)) 0 (ruleL (.cat r r2) (.func (.func g7) #[] c7)) = ruleL (.cat r r2) (.func (.func g7) #[] c7) := spl2 rfl
                        replace sg9 : StB B7 _ G9 (sP s t j2 a4 n4 cap4 os ps ++ [pB 77 q2 rule0, pB 77 q3 (splice (ruleL r (.func (.func gg) #[] cc)) 0 (ruleL (.cat r r2) (.func (.func g7) #[] c7))), pB 77 q5 (ruleL (.cat r r2) (.func (.func g7) #[] c7))]) := sg9
                        rw [e9] at sg9
                        (conv => whnf)
                        refine ⟨rfl, (j2, true), rfl, ⟨{ settleF f' with factor := some r2 }, .cat r r2, B7, .func (.func g7) #[] c7, a4, n4, cap4, by omega, hj2t, hp9, ?_, fun h => Bool.noConfusion h, fun _ => hpo2, z1.trans e1, z2.trans e2, z3.trans e3, z4.trans e4, s8, ?_, (sg9.subl ((List.append_sublist_append_left _).2 (List.Sublist.cons_cons _ (List.Sublist.cons_cons _ (List.nil_sublist _))))).rebase, ?_⟩, ?_⟩
                        · show some (catO (settleF f').row r2) = some (.cat r r2)
                          rw [hr]; rfl
                        · exact ag8.trans (ja9.mono fun k hk => fun e => (sg8.rng _ (List.mem_append_right _ (List.mem_cons_of_mem _ List.mem_cons_self)) k e).1 (s8 k hk))
                        · exact gj8.frame (ja9.mono fun k hk => fun e => (sg8.rng _ (List.mem_append_right _ (List.mem_cons_of_mem _ List.mem_cons_self)) k e).1 hk) fun k hk => hk
                        · show t.size - j2 < t.size - j; omega
    · rw [decide_eq_true (show t.size ≤ j by omega)]
      (conv => whnf); refine ldN (cs := ruleL r (.func (.func gg) #[] cc)) ag77 (ld_rule (sg1.blk _ (lgR _ _ 1))) trivial ?_
      (conv => whnf); refine stNBa (cs := ruleL r (.func (.func gg) #[] cc)) sg1 _ rfl (lgR _ _ 0) (by simp [ruleL, rule0]) rfl fun G9 sg9 ja js => ?_
      rw [lsR, spl2 rfl] at sg9
      (conv => whnf); refine ldN (cs := ruleL r (.func (.func gg) #[] cc)) ag77 (ld_rule (sg9.blk _ (lgR _ _ 0))) trivial ?_
      exact ⟨j, f', r, hij, hj, .inl (by omega), hpr, hgd, e1, e2, e3, e4, B2, _, rfl, s2, ag.trans fun k hk => sg9.old k (s2 k hk), ⟨a2, n2, cap2, sg9.lft.rebase⟩, gv.frame sg9.old fun k hk => hk⟩
end Go.Proofs.YtlnmhfhdjnenoaaGreatDoor
/- regex.scanner: meets, alternatives: the walks. -/
set_option linter.unusedVariables false
set_option linter.unusedSimpArgs false
set_option maxRecDepth 100000
namespace Go.Proofs.YtlnmhfhdjnenoaaGreatDoor
open Go.VC Go.Lib
theorem settle_factor (f : AF) : (settleF f).factor = none := by
  unfold settleF
  split
  · rename_i h; exact h
  · rfl
theorem fold_same (f : AF) : (foldF f).alt = f.alt ∧ (foldF f).place = f.place ∧ (foldF f).row = none ∧ (foldF f).factor = none := by
  obtain ⟨h1, h2, h3, h4⟩ := settle_same f
  exact ⟨h1, h4, rfl, settle_factor f⟩
theorem fold_meet (f : AF) : (foldF f).meet = some (match f.meet with | none => (settleF f).row.getD .eps | some q => if f.sign = 38 then .and_ q ((settleF f).row.getD .eps) else .minus q ((settleF f).row.getD .eps)) := by
  obtain ⟨h1, h2, h3, h4⟩ := settle_same f
  show some (match (settleF f).meet with | none => (settleF f).row.getD .eps | some q => if (settleF f).sign = 38 then .and_ q ((settleF f).row.getD .eps) else .minus q ((settleF f).row.getD .eps)) = _
  rw [h2, h3]
theorem close_alt (f : AF) : (closeF f).alt = some (match f.alt with | none => (foldF f).meet.getD .eps | some q => .alt q ((foldF f).meet.getD .eps)) := by
  obtain ⟨h1, h2, h3, h4⟩ := fold_same f
  show some (match (foldF f).alt with | none => (foldF f).meet.getD .eps | some q => .alt q ((foldF f).meet.getD .eps)) = _
  rw [h1]
theorem close_same (f : AF) : (closeF f).meet = none ∧ (closeF f).place = f.place ∧ (closeF f).row = none ∧ (closeF f).factor = none := by
  obtain ⟨h1, h2, h3, h4⟩ := fold_same f
  exact ⟨rfl, h2, h3, h4⟩
structure MeetI (B : Nat → Prop) (H : Heap) (s q2 q3 i : Nat) (t : ByteArray) (os : List Int) (ps : List Pc) (f : AF) (fs : List AF) (j : Nat) (G : Heap) : Prop where
  ex : ∃ (f' : AF) (r : ReM) (B' : Nat → Prop) (fn : Value) (a : Option Addr) (n cap : Nat), i ≤ j ∧ j ≤ t.size ∧ (j = t.size ∨ bt t j = 124 ∨ bt t j = 38 ∨ bt t j = 45 ∨ bt t j = 41) ∧ prun t ⟨i, f, fs⟩ = prun t ⟨j, f', fs⟩ ∧ (foldF f').meet = some r ∧ f'.alt = f.alt ∧ f'.place = f.place ∧
    (∀ k, B k → B' k) ∧ Agr B H G ∧ StB B' G G (sP s t j a n cap os ps ++ [pB 77 q2 rule0, pB 77 q3 (ruleL r fn)]) ∧ GrowV B' G fn r
set_option maxHeartbeats 16000000 in
theorem meets_c {B : Nat → Prop} {H : Heap} {s i : Nat} {t : ByteArray} {os : List Int} {ps : List Pc} {f : AF} {fs : List AF} (hE : EscH H) (hEB : B 0) (ht : t.size ≤ 1048576) (hi : i ≤ t.size) (hos : os.length = fs.length) (hfs : fs.length ≤ 1000)
    (hmeet : f.meet = none) (hrow : f.row = none) (hfac : f.factor = none) (IH : ∀ i', i < i' → AltSpec t i') (sc : Sc B H s t i os ps) :
    FnOkP Tryz.prog 50 #[.pointer (some ⟨s, 0, none⟩)] H
      (fun v H' => ∃ j f' r, i ≤ j ∧ j ≤ t.size ∧ (j = t.size ∨ bt t j = 124 ∨ bt t j = 41) ∧ prun t ⟨i, f, fs⟩ = prun t ⟨j, f', fs⟩ ∧ (foldF f').meet = some r ∧ f'.alt = f.alt ∧ f'.place = f.place ∧ SR B H s t j os ps r v H')
      (fun x H' => SE B H t ⟨i, f, fs⟩ x H') := by
  obtain ⟨a, n, cap, st⟩ := sc
  refine FnOkP.of_vc Tryz.func50 rfl (Tryz.call50 _) ?_
  (conv => whnf); refine valloc (.agg rule0.toArray) rule0 rule_z rfl ?_
  intro q2 H1 hq1 hs1 hb1 ha1
  have st1 := st.box hq1 hs1 hb1 ha1
  (conv => whnf); refine VCallP.mk (row_c (f := f) (fs := fs) (esc_agr hE hEB st1.old) hEB ht hi hos hfs hrow hfac IH (B := B) (ps := ps ++ [pB 77 q2 rule0]) ⟨a, n, cap, st1.rebase⟩) ?_ ?_
  rotate_left
  · intro x H7 h
    exact h.from rfl st1.old fun k hk => hk
  rintro _ H2 ⟨j1, f1, r1, hij1, hj1, he1, hp1, hrw, e1, e2, e3, e5, ⟨B1, f3, rfl, s1, a1, ⟨a2, n2, cap2, st2⟩, gs⟩⟩
  obtain ⟨g1, c1, rfl⟩ := gs.fn
  replace st2 : StB B1 H2 H2 (sP s t j1 a2 n2 cap2 os ps ++ [pB 77 q2 rule0]) := st2
  (conv => whnf); refine valloc (.agg rule0.toArray) rule0 rule_z rfl ?_
  intro q3 H3 hq3 hs3 hb3 ha3
  have st3 := st2.box hq3 hs3 hb3 ha3
  rw [List.append_assoc] at st3
  replace st3 : StB B1 H2 H3 (sP s t j1 a2 n2 cap2 os ps ++ [pB 77 q2 rule0, pB 77 q3 rule0]) := st3
  (conv => whnf); refine stNBa (cs := ruleL r1 (.func (.func g1) #[] c1)) st3 _ rfl (lgR _ _ 1) (by simp [ruleL, rule0]) rfl fun H4 st4 ja4 js4 => ?_
  rw [lsR, spl2 rfl] at st4
  replace st4 : StB B1 H2 H4 (sP s t j1 a2 n2 cap2 os ps ++ [pB 77 q2 rule0, pB 77 q3 (ruleL r1 (.func (.func g1) #[] c1))]) := st4
  have a14 : Agr B H H4 := (st1.old.trans a1).trans fun k hk => st4.old k (s1 k hk)
  (conv => whnf)
  refine VLoopP.mk [] (fun _ : Nat => []) (fun j G => MeetI B H s q2 q3 i t os ps f fs j G) (fun j _ => t.size - j) ?_ ?_
  · (conv => whnf)
    exact ⟨j1, rfl, ⟨f1, r1, B1, .func (.func g1) #[] c1, a2, n2, cap2, hij1, hj1, he1, hp1, by rw [fold_meet, e2, hmeet, hrw], e1, e5, s1, a14, st4.rebase, gs.frame st4.old fun k hk => hk⟩⟩
  · rintro j G junk ⟨f', r, B2, f2, a2, n2, cap2, hij, hj, hend, hpr, hm, ha, e4, s2, ag, stg, gv⟩
    obtain ⟨gg, cc, rfl⟩ := gv.fn
    clear st st1 st2 st3 st4 gs hb1 hb3 ha1 ha3 a1 a14 s1
    (conv => whnf); refine VCallP.of (pures (ended_p (stg.blk 0 rfl)) fun G1 hg1 => ?_)
    have sg1 := stg.call hg1
    by_cases h0 : j < t.size
    · rw [decide_eq_false (show ¬ t.size ≤ j by omega)]
      have hend : bt t j = 124 ∨ bt t j = 38 ∨ bt t j = 45 ∨ bt t j = 41 := hend.resolve_left (by omega)
      (conv => whnf); refine VCallP.of (pures (scnext_p (sg1.blk 0 rfl) h0) fun G2 hg2 => ?_)
      have sg2 := sg1.call hg2
      (conv => whnf); try (refine VSeqP.run ?_)
      (conv => whnf)
      by_cases h38 : bt t j = 38
      · have d : (((bt t j : Nat) : Int) == 38) = true := by rw [h38]; rfl
        (conv => whnf); rw [d]
        (conv => whnf); refine VC.fa fl74_1 ?_
        (conv => whnf); refine ld1 (v := .int .i64 ((j : Nat) : Int)) ct3 (by rw [(sg2.blk 0 rfl).cell]; rfl) trivial ?_
        (conv => whnf); rw [w64 (x := ((j : Nat) : Int) + 1) (by omega) (by omega)]
        (conv => whnf); refine VC.fa fl74_1 ?_
        (conv => whnf); refine st1B sg2 0 ct3 rfl (by simp) rfl fun G3 sg3 => ?_
        replace sg3 : StB B2 G G3 (sP s t (j + 1) a2 n2 cap2 os ps ++ [pB 77 q2 rule0, pB 77 q3 (ruleL r (.func (.func gg) #[] cc))]) := sg3
        have ag3 : Agr B H G3 := ag.trans fun k hk => sg3.old k (s2 k hk)
        have gv3 := gv.frame sg3.old fun k hk => hk
        have hstep : prun t ⟨i, f, fs⟩ = prun t ⟨j + 1, { foldF f' with sign := 38 }, fs⟩ := hpr.trans (prun_step (s := ⟨j, f', fs⟩) h0 (by have := pstep_sign (t := t) (i := j) (f := f') (fs := fs) (.inl h38); rw [h38] at this; exact this))
        (conv => whnf); refine VDrawP.held (fun k => k = q3) [4] (sq [0,1] (.f 2 (.f 3 (.f 4 .e)))) (blind_all _ _) rfl (by kernel_rfl) ?_
        (conv => whnf); refine ldN (cs := ruleL r (.func (.func gg) #[] cc)) ag77 (ld_rule (sg3.blk _ (lgR _ _ 1))) rfl ?_
        (conv => whnf); refine VCallP.mk (row_c (f := { foldF f' with sign := 38 }) (fs := fs) (esc_agr hE hEB ag3) (s2 _ hEB) ht (by omega) hos hfs rfl (fold_same f').2.2.2 (fun i' hi' => IH i' (by omega)) (B := B2) (ps := ps ++ [pB 77 q2 rule0, pB 77 q3 (ruleL r (.func (.func gg) #[] cc))]) ⟨a2, n2, cap2, sg3.rebase⟩) ?_ ?_
        rotate_left
        · intro x H7 h
          exact h.from hstep ag3 s2
        rintro _ G4 ⟨j1, f1, r2, hij1, hj1, he1, hp1, hrw, e1, e2, e3, e5, ⟨B3, f3, rfl, s3, a3, ⟨a4, n4, cap4, sg4⟩, gs⟩⟩
        replace sg4 : StB B3 G4 G4 (sP s t j1 a4 n4 cap4 os ps ++ [pB 77 q2 rule0, pB 77 q3 (ruleL r (.func (.func gg) #[] cc))]) := sg4
        refine ⟨fun k hk => by rw [show k = q3 from hk]; exact (sg4.blk _ (lgR _ _ 1)).trans (sg3.blk _ (lgR _ _ 1)).symm, ?_⟩
        have ag4 : Agr B H G4 := ag3.trans fun k hk => a3 k (s2 k hk)
        (conv => whnf); refine VCallP.of (VCall.mk (join_c .and_ sg4 (gv3.frame a3 s3) gs) ?_)
        rintro _ G5 ⟨B5, f5, rfl, s5, a5, sg5, gj⟩
        refine ⟨fun k hk => by rw [show k = q3 from hk]; exact (sg5.blk _ (lgR _ _ 1)).trans (sg3.blk _ (lgR _ _ 1)).symm, ?_⟩
        obtain ⟨g5, c5, rfl⟩ := gj.fn
        (conv => whnf); refine stNBa (cs := ruleL (opR .and_ r r2) (.func (.func g5) #[] c5)) sg5 _ rfl (lgR _ _ 1) (by simp [ruleL]) rfl fun G6 sg6 ja6 js6 => ?_
        rw [lsR] at sg6
        have e6 : splice (ruleL r (.func (.func gg) #[] cc)) 0 (ruleL (opR .and_ r r2) (.func (.func g5) #[] c5)) = ruleL (opR .and_ r r2) (.func (.func g5) #[] c5) := spl2 rfl
        replace sg6 : StB B5 G5 G6 (sP s t j1 a4 n4 cap4 os ps ++ [pB 77 q2 rule0, pB 77 q3 (splice (ruleL r (.func (.func gg) #[] cc)) 0 (ruleL (opR .and_ r r2) (.func (.func g5) #[] c5)))]) := sg6
        rw [e6] at sg6
        have s6 : ∀ k, B k → B5 k := fun k hk => s5 k (s3 k (s2 k hk))
        have ag6 : Agr B H G6 := (ag4.trans (a5.mono fun k hk => sg4.up (s3 k (s2 k hk)))).trans fun k hk => sg6.old k (s6 k hk)
        (conv => whnf)
        refine ⟨rfl, j1, rfl, ⟨f1, opR .and_ r r2, B5, .func (.func g5) #[] c5, a4, n4, cap4, by omega, hj1, he1, hstep.trans hp1, by rw [fold_meet, e2, e3, show ({ foldF f' with sign := 38 } : AF).meet = (foldF f').meet from rfl, hm]; show some (if 38 = 38 then _ else _) = _; rw [if_pos rfl, hrw]; rfl, e1.trans ((fold_same f').1.trans ha), e5.trans ((fold_same f').2.1.trans e4), s6, ag6, sg6.rebase, gj.frame sg6.old fun k hk => hk⟩, by omega⟩
      · have d : (((bt t j : Nat) : Int) == 38) = false := nofl h38
        (conv => whnf); rw [d]
        clear d
        by_cases h45 : bt t j = 45
        · have d : (((bt t j : Nat) : Int) == 45) = true := by rw [h45]; rfl
          (conv => whnf); rw [d]
          (conv => whnf); refine VC.fa fl74_1 ?_
          (conv => whnf); refine ld1 (v := .int .i64 ((j : Nat) : Int)) ct3 (by rw [(sg2.blk 0 rfl).cell]; rfl) trivial ?_
          (conv => whnf); rw [w64 (x := ((j : Nat) : Int) + 1) (by omega) (by omega)]
          (conv => whnf); refine VC.fa fl74_1 ?_
          (conv => whnf); refine st1B sg2 0 ct3 rfl (by simp) rfl fun G3 sg3 => ?_
          replace sg3 : StB B2 G G3 (sP s t (j + 1) a2 n2 cap2 os ps ++ [pB 77 q2 rule0, pB 77 q3 (ruleL r (.func (.func gg) #[] cc))]) := sg3
          have ag3 : Agr B H G3 := ag.trans fun k hk => sg3.old k (s2 k hk)
          have gv3 := gv.frame sg3.old fun k hk => hk
          have hstep : prun t ⟨i, f, fs⟩ = prun t ⟨j + 1, { foldF f' with sign := 45 }, fs⟩ := hpr.trans (prun_step (s := ⟨j, f', fs⟩) h0 (by have := pstep_sign (t := t) (i := j) (f := f') (fs := fs) (.inr h45); rw [h45] at this; exact this))
          (conv => whnf); refine VDrawP.held (fun k => k = q3) [4] (sq [0,1] (.f 2 (.f 3 (.f 4 .e)))) (blind_all _ _) rfl (by kernel_rfl) ?_
          (conv => whnf); refine ldN (cs := ruleL r (.func (.func gg) #[] cc)) ag77 (ld_rule (sg3.blk _ (lgR _ _ 1))) rfl ?_
          (conv => whnf); refine VCallP.mk (row_c (f := { foldF f' with sign := 45 }) (fs := fs) (esc_agr hE hEB ag3) (s2 _ hEB) ht (by omega) hos hfs rfl (fold_same f').2.2.2 (fun i' hi' => IH i' (by omega)) (B := B2) (ps := ps ++ [pB 77 q2 rule0, pB 77 q3 (ruleL r (.func (.func gg) #[] cc))]) ⟨a2, n2, cap2, sg3.rebase⟩) ?_ ?_
          rotate_left
          · intro x H7 h
            exact h.from hstep ag3 s2
          rintro _ G4 ⟨j1, f1, r2, hij1, hj1, he1, hp1, hrw, e1, e2, e3, e5, ⟨B3, f3, rfl, s3, a3, ⟨a4, n4, cap4, sg4⟩, gs⟩⟩
          replace sg4 : StB B3 G4 G4 (sP s t j1 a4 n4 cap4 os ps ++ [pB 77 q2 rule0, pB 77 q3 (ruleL r (.func (.func gg) #[] cc))]) := sg4
          refine ⟨fun k hk => by rw [show k = q3 from hk]; exact (sg4.blk _ (lgR _ _ 1)).trans (sg3.blk _ (lgR _ _ 1)).symm, ?_⟩
          have ag4 : Agr B H G4 := ag3.trans fun k hk => a3 k (s2 k hk)
          (conv => whnf); refine VCallP.of (VCall.mk (join_c .minus sg4 (gv3.frame a3 s3) gs) ?_)
          rintro _ G5 ⟨B5, f5, rfl, s5, a5, sg5, gj⟩
          refine ⟨fun k hk => by rw [show k = q3 from hk]; exact (sg5.blk _ (lgR _ _ 1)).trans (sg3.blk _ (lgR _ _ 1)).symm, ?_⟩
          obtain ⟨g5, c5, rfl⟩ := gj.fn
          (conv => whnf); refine stNBa (cs := ruleL (opR .minus r r2) (.func (.func g5) #[] c5)) sg5 _ rfl (lgR _ _ 1) (by simp [ruleL]) rfl fun G6 sg6 ja6 js6 => ?_
          rw [lsR] at sg6
          have e6 : splice (ruleL r (.func (.func gg) #[] cc)) 0 (ruleL (opR .minus r r2) (.func (.func g5) #[] c5)) = ruleL (opR .minus r r2) (.func (.func g5) #[] c5) := spl2 rfl
          replace sg6 : StB B5 G5 G6 (sP s t j1 a4 n4 cap4 os ps ++ [pB 77 q2 rule0, pB 77 q3 (splice (ruleL r (.func (.func gg) #[] cc)) 0 (ruleL (opR .minus r r2) (.func (.func g5) #[] c5)))]) := sg6
          rw [e6] at sg6
          have s6 : ∀ k, B k → B5 k := fun k hk => s5 k (s3 k (s2 k hk))
          have ag6 : Agr B H G6 := (ag4.trans (a5.mono fun k hk => sg4.up (s3 k (s2 k hk)))).trans fun k hk => sg6.old k (s6 k hk)
          (conv => whnf)
          refine ⟨rfl, j1, rfl, ⟨f1, opR .minus r r2, B5, .func (.func g5) #[] c5, a4, n4, cap4, by omega, hj1, he1, hstep.trans hp1, by rw [fold_meet, e2, e3, show ({ foldF f' with sign := 45 } : AF).meet = (foldF f').meet from rfl, hm]; show some (if 45 = 38 then _ else _) = _; rw [if_neg (by decide), hrw]; rfl, e1.trans ((fold_same f').1.trans ha), e5.trans ((fold_same f').2.1.trans e4), s6, ag6, sg6.rebase, gj.frame sg6.old fun k hk => hk⟩, by omega⟩
        · have d : (((bt t j : Nat) : Int) == 45) = false := nofl h45
          (conv => whnf); rw [d]
          (conv => whnf); refine ldN (cs := ruleL r (.func (.func gg) #[] cc)) ag77 (ld_rule (sg2.blk _ (lgR _ _ 1))) trivial ?_
          (conv => whnf); refine stNBa (cs := ruleL r (.func (.func gg) #[] cc)) sg2 _ rfl (lgR _ _ 0) (by simp [ruleL, rule0]) rfl fun G9 sg9 ja js => ?_
          rw [lsR, spl2 rfl] at sg9
          (conv => whnf); refine ldN (cs := ruleL r (.func (.func gg) #[] cc)) ag77 (ld_rule (sg9.blk _ (lgR _ _ 0))) trivial ?_
          exact ⟨j, f', r, hij, hj, by omega, hpr, hm, ha, e4, B2, _, rfl, s2, ag.trans fun k hk => sg9.old k (s2 k hk), ⟨a2, n2, cap2, sg9.lft.rebase⟩, gv.frame sg9.old fun k hk => hk⟩
    · rw [decide_eq_true (show t.size ≤ j by omega)]
      (conv => whnf); refine ldN (cs := ruleL r (.func (.func gg) #[] cc)) ag77 (ld_rule (sg1.blk _ (lgR _ _ 1))) trivial ?_
      (conv => whnf); refine stNBa (cs := ruleL r (.func (.func gg) #[] cc)) sg1 _ rfl (lgR _ _ 0) (by simp [ruleL, rule0]) rfl fun G9 sg9 ja js => ?_
      rw [lsR, spl2 rfl] at sg9
      (conv => whnf); refine ldN (cs := ruleL r (.func (.func gg) #[] cc)) ag77 (ld_rule (sg9.blk _ (lgR _ _ 0))) trivial ?_
      exact ⟨j, f', r, hij, hj, by omega, hpr, hm, ha, e4, B2, _, rfl, s2, ag.trans fun k hk => sg9.old k (s2 k hk), ⟨a2, n2, cap2, sg9.lft.rebase⟩, gv.frame sg9.old fun k hk => hk⟩
structure AltI (B : Nat → Prop) (H : Heap) (s q2 q3 i : Nat) (t : ByteArray) (os : List Int) (ps : List Pc) (f : AF) (fs : List AF) (j : Nat) (G : Heap) : Prop where
  ex : ∃ (f' : AF) (r : ReM) (B' : Nat → Prop) (fn : Value) (a : Option Addr) (n cap : Nat), i ≤ j ∧ j ≤ t.size ∧ (j = t.size ∨ bt t j = 124 ∨ bt t j = 41) ∧ prun t ⟨i, f, fs⟩ = prun t ⟨j, f', fs⟩ ∧ (closeF f').alt = some r ∧ f'.place = f.place ∧
    (∀ k, B k → B' k) ∧ Agr B H G ∧ StB B' G G (sP s t j a n cap os ps ++ [pB 77 q2 rule0, pB 77 q3 (ruleL r fn)]) ∧ GrowV B' G fn r
set_option maxHeartbeats 16000000 in
theorem alts_c {B : Nat → Prop} {H : Heap} {s i : Nat} {t : ByteArray} {os : List Int} {ps : List Pc} {f : AF} {fs : List AF} (hE : EscH H) (hEB : B 0) (ht : t.size ≤ 1048576) (hi : i ≤ t.size) (hos : os.length = fs.length) (hfs : fs.length ≤ 1000)
    (halt : f.alt = none) (hmeet : f.meet = none) (hrow : f.row = none) (hfac : f.factor = none) (IH : ∀ i', i < i' → AltSpec t i') (sc : Sc B H s t i os ps) :
    FnOkP Tryz.prog 25 #[.pointer (some ⟨s, 0, none⟩)] H
      (fun v H' => ∃ j f' r, i ≤ j ∧ j ≤ t.size ∧ (j = t.size ∨ bt t j = 41) ∧ prun t ⟨i, f, fs⟩ = prun t ⟨j, f', fs⟩ ∧ (closeF f').alt = some r ∧ f'.place = f.place ∧ SR B H s t j os ps r v H')
      (fun x H' => SE B H t ⟨i, f, fs⟩ x H') := by
  obtain ⟨a, n, cap, st⟩ := sc
  refine FnOkP.of_vc Tryz.func25 rfl (Tryz.call25 _) ?_
  (conv => whnf); refine valloc (.agg rule0.toArray) rule0 rule_z rfl ?_
  intro q2 H1 hq1 hs1 hb1 ha1
  have st1 := st.box hq1 hs1 hb1 ha1
  (conv => whnf); refine VCallP.mk (meets_c (f := f) (fs := fs) (esc_agr hE hEB st1.old) hEB ht hi hos hfs hmeet hrow hfac IH (B := B) (ps := ps ++ [pB 77 q2 rule0]) ⟨a, n, cap, st1.rebase⟩) ?_ ?_
  rotate_left
  · intro x H7 h
    exact h.from rfl st1.old fun k hk => hk
  rintro _ H2 ⟨j1, f1, r1, hij1, hj1, he1, hp1, hrw, e1, e5, ⟨B1, f3, rfl, s1, a1, ⟨a2, n2, cap2, st2⟩, gs⟩⟩
  obtain ⟨g1, c1, rfl⟩ := gs.fn
  replace st2 : StB B1 H2 H2 (sP s t j1 a2 n2 cap2 os ps ++ [pB 77 q2 rule0]) := st2
  (conv => whnf); refine valloc (.agg rule0.toArray) rule0 rule_z rfl ?_
  intro q3 H3 hq3 hs3 hb3 ha3
  have st3 := st2.box hq3 hs3 hb3 ha3
  rw [List.append_assoc] at st3
  replace st3 : StB B1 H2 H3 (sP s t j1 a2 n2 cap2 os ps ++ [pB 77 q2 rule0, pB 77 q3 rule0]) := st3
  (conv => whnf); refine stNBa (cs := ruleL r1 (.func (.func g1) #[] c1)) st3 _ rfl (lgR _ _ 1) (by simp [ruleL, rule0]) rfl fun H4 st4 ja4 js4 => ?_
  rw [lsR, spl2 rfl] at st4
  replace st4 : StB B1 H2 H4 (sP s t j1 a2 n2 cap2 os ps ++ [pB 77 q2 rule0, pB 77 q3 (ruleL r1 (.func (.func g1) #[] c1))]) := st4
  have a14 : Agr B H H4 := (st1.old.trans a1).trans fun k hk => st4.old k (s1 k hk)
  (conv => whnf)
  refine VLoopP.mk [] (fun _ : Nat => []) (fun j G => AltI B H s q2 q3 i t os ps f fs j G) (fun j _ => t.size - j) ?_ ?_
  · (conv => whnf)
    exact ⟨j1, rfl, ⟨f1, r1, B1, .func (.func g1) #[] c1, a2, n2, cap2, hij1, hj1, he1, hp1, by rw [close_alt, e1, halt, hrw]; rfl, e5, s1, a14, st4.rebase, gs.frame st4.old fun k hk => hk⟩⟩
  · rintro j G junk ⟨f', r, B2, f2, a2, n2, cap2, hij, hj, hend, hpr, hm, e4, s2, ag, stg, gv⟩
    obtain ⟨gg, cc, rfl⟩ := gv.fn
    clear st st1 st2 st3 st4 gs hb1 hb3 ha1 ha3 a1 a14 s1
    (conv => whnf); refine VCallP.of (pures (ended_p (stg.blk 0 rfl)) fun G1 hg1 => ?_)
    have sg1 := stg.call hg1
    by_cases h0 : j < t.size
    · rw [decide_eq_false (show ¬ t.size ≤ j by omega)]
      have hend : bt t j = 124 ∨ bt t j = 41 := hend.resolve_left (by omega)
      (conv => whnf); refine VCallP.of (pures (scnext_p (sg1.blk 0 rfl) h0) fun G2 hg2 => ?_)
      have sg2 := sg1.call hg2
      (conv => whnf); try (refine VSeqP.run ?_)
      (conv => whnf)
      by_cases h124 : bt t j = 124
      · have d : (((bt t j : Nat) : Int) == 124) = true := by rw [h124]; rfl
        (conv => whnf); rw [d]
        (conv => whnf); refine VC.fa fl74_1 ?_
        (conv => whnf); refine ld1 (v := .int .i64 ((j : Nat) : Int)) ct3 (by rw [(sg2.blk 0 rfl).cell]; rfl) trivial ?_
        (conv => whnf); rw [w64 (x := ((j : Nat) : Int) + 1) (by omega) (by omega)]
        (conv => whnf); refine VC.fa fl74_1 ?_
        (conv => whnf); refine st1B sg2 0 ct3 rfl (by simp) rfl fun G3 sg3 => ?_
        replace sg3 : StB B2 G G3 (sP s t (j + 1) a2 n2 cap2 os ps ++ [pB 77 q2 rule0, pB 77 q3 (ruleL r (.func (.func gg) #[] cc))]) := sg3
        have ag3 : Agr B H G3 := ag.trans fun k hk => sg3.old k (s2 k hk)
        have gv3 := gv.frame sg3.old fun k hk => hk
        have hstep : prun t ⟨i, f, fs⟩ = prun t ⟨j + 1, closeF f', fs⟩ := hpr.trans (prun_step (s := ⟨j, f', fs⟩) h0 (pstep_bar h124))
        (conv => whnf); refine VDrawP.held (fun k => k = q3) [4] (sq [0,1] (.f 2 (.f 3 (.f 4 .e)))) (blind_all _ _) rfl (by kernel_rfl) ?_
        (conv => whnf); refine ldN (cs := ruleL r (.func (.func gg) #[] cc)) ag77 (ld_rule (sg3.blk _ (lgR _ _ 1))) rfl ?_
        (conv => whnf); refine VCallP.mk (meets_c (f := closeF f') (fs := fs) (esc_agr hE hEB ag3) (s2 _ hEB) ht (by omega) hos hfs (close_same f').1 (close_same f').2.2.1 (close_same f').2.2.2 (fun i' hi' => IH i' (by omega)) (B := B2) (ps := ps ++ [pB 77 q2 rule0, pB 77 q3 (ruleL r (.func (.func gg) #[] cc))]) ⟨a2, n2, cap2, sg3.rebase⟩) ?_ ?_
        rotate_left
        · intro x H7 h
          exact h.from hstep ag3 s2
        rintro _ G4 ⟨j1, f1, r2, hij1, hj1, he1, hp1, hrw, e1, e5, ⟨B3, f3, rfl, s3, a3, ⟨a4, n4, cap4, sg4⟩, gs⟩⟩
        replace sg4 : StB B3 G4 G4 (sP s t j1 a4 n4 cap4 os ps ++ [pB 77 q2 rule0, pB 77 q3 (ruleL r (.func (.func gg) #[] cc))]) := sg4
        refine ⟨fun k hk => by rw [show k = q3 from hk]; exact (sg4.blk _ (lgR _ _ 1)).trans (sg3.blk _ (lgR _ _ 1)).symm, ?_⟩
        have ag4 : Agr B H G4 := ag3.trans fun k hk => a3 k (s2 k hk)
        (conv => whnf); refine VCallP.of (VCall.mk (join_c .alt sg4 (gv3.frame a3 s3) gs) ?_)
        rintro _ G5 ⟨B5, f5, rfl, s5, a5, sg5, gj⟩
        refine ⟨fun k hk => by rw [show k = q3 from hk]; exact (sg5.blk _ (lgR _ _ 1)).trans (sg3.blk _ (lgR _ _ 1)).symm, ?_⟩
        obtain ⟨g5, c5, rfl⟩ := gj.fn
        (conv => whnf); refine stNBa (cs := ruleL (opR .alt r r2) (.func (.func g5) #[] c5)) sg5 _ rfl (lgR _ _ 1) (by simp [ruleL]) rfl fun G6 sg6 ja6 js6 => ?_
        rw [lsR] at sg6
        have e6 : splice (ruleL r (.func (.func gg) #[] cc)) 0 (ruleL (opR .alt r r2) (.func (.func g5) #[] c5)) = ruleL (opR .alt r r2) (.func (.func g5) #[] c5) := spl2 rfl
        replace sg6 : StB B5 G5 G6 (sP s t j1 a4 n4 cap4 os ps ++ [pB 77 q2 rule0, pB 77 q3 (splice (ruleL r (.func (.func gg) #[] cc)) 0 (ruleL (opR .alt r r2) (.func (.func g5) #[] c5)))]) := sg6
        rw [e6] at sg6
        have s6 : ∀ k, B k → B5 k := fun k hk => s5 k (s3 k (s2 k hk))
        have ag6 : Agr B H G6 := (ag4.trans (a5.mono fun k hk => sg4.up (s3 k (s2 k hk)))).trans fun k hk => sg6.old k (s6 k hk)
        (conv => whnf)
        refine ⟨rfl, j1, rfl, ⟨f1, opR .alt r r2, B5, .func (.func g5) #[] c5, a4, n4, cap4, by omega, hj1, he1, hstep.trans hp1, by rw [close_alt, e1, hm, hrw]; rfl, e5.trans ((close_same f').2.1.trans e4), s6, ag6, sg6.rebase, gj.frame sg6.old fun k hk => hk⟩, by omega⟩
      · have d : (((bt t j : Nat) : Int) == 124) = false := nofl h124
        (conv => whnf); rw [d]
        (conv => whnf); refine ldN (cs := ruleL r (.func (.func gg) #[] cc)) ag77 (ld_rule (sg2.blk _ (lgR _ _ 1))) trivial ?_
        (conv => whnf); refine stNBa (cs := ruleL r (.func (.func gg) #[] cc)) sg2 _ rfl (lgR _ _ 0) (by simp [ruleL, rule0]) rfl fun G9 sg9 ja js => ?_
        rw [lsR, spl2 rfl] at sg9
        (conv => whnf); refine ldN (cs := ruleL r (.func (.func gg) #[] cc)) ag77 (ld_rule (sg9.blk _ (lgR _ _ 0))) trivial ?_
        exact ⟨j, f', r, hij, hj, by omega, hpr, hm, e4, B2, _, rfl, s2, ag.trans fun k hk => sg9.old k (s2 k hk), ⟨a2, n2, cap2, sg9.lft.rebase⟩, gv.frame sg9.old fun k hk => hk⟩
    · rw [decide_eq_true (show t.size ≤ j by omega)]
      (conv => whnf); refine ldN (cs := ruleL r (.func (.func gg) #[] cc)) ag77 (ld_rule (sg1.blk _ (lgR _ _ 1))) trivial ?_
      (conv => whnf); refine stNBa (cs := ruleL r (.func (.func gg) #[] cc)) sg1 _ rfl (lgR _ _ 0) (by simp [ruleL, rule0]) rfl fun G9 sg9 ja js => ?_
      rw [lsR, spl2 rfl] at sg9
      (conv => whnf); refine ldN (cs := ruleL r (.func (.func gg) #[] cc)) ag77 (ld_rule (sg9.blk _ (lgR _ _ 0))) trivial ?_
      exact ⟨j, f', r, hij, hj, by omega, hpr, hm, e4, B2, _, rfl, s2, ag.trans fun k hk => sg9.old k (s2 k hk), ⟨a2, n2, cap2, sg9.lft.rebase⟩, gv.frame sg9.old fun k hk => hk⟩
theorem alt_all {t : ByteArray} (ht : t.size ≤ 1048576) : ∀ (n i : Nat), t.size - i ≤ n → i ≤ t.size → AltSpec t i
  | 0, i, hn, hi => fun B H s os ps f fs hE hEB hi hos hfs h1 h2 h3 h4 sc => alts_c hE hEB ht hi hos hfs h1 h2 h3 h4 (fun i' hi' => fun B H s os ps f fs _ _ hi2 => absurd hi2 (by omega)) sc
  | n + 1, i, hn, hi => fun B H s os ps f fs hE hEB hi hos hfs h1 h2 h3 h4 sc => alts_c hE hEB ht hi hos hfs h1 h2 h3 h4 (fun i' hi' => by
      by_cases hle : i' ≤ t.size
      · exact alt_all ht n i' (by omega) hle
      · exact fun B H s os ps f fs _ _ hi2 => absurd hi2 (by omega)) sc
end Go.Proofs.YtlnmhfhdjnenoaaGreatDoor
/- regex.Parse: the walk. -/
set_option linter.unusedVariables false
set_option linter.unusedSimpArgs false
set_option maxRecDepth 100000
namespace Go.Proofs.YtlnmhfhdjnenoaaGreatDoor
open Go.VC Go.Lib
def paRes (q2 q3 : Nat) (v : Value) (c e : Nat) : List Pc := [pB 24 q2 [v], pB 27 q3 (faultL c e)]
theorem paclosR {H : Heap} {q2 q3 : Nat} {K : Heap → Prop} (k : K H) : VClos Tryz.prog 24 #[.pointer (some ⟨q2, 0, none⟩), .pointer (some ⟨q3, 0, none⟩)] .returning .returning H K := by
  refine VClos.mk (R := fun H' => H' = H) (callsD_rec (R := fun H' => H' = H) Tryz.func24 rfl ⟨⟨_, rfl⟩, rfl, rfl, rfl, rfl, rfl⟩ .ret rfl ?_) (fun H' h => by rw [h]; exact k)
  (conv => whnf)
  refine ⟨rfl, ?_⟩
  (conv => whnf); refine ifneqN Tryz.underlying20 ?_
  (conv => whnf)
theorem paclosP {B : Nat → Prop} {H0 H : Heap} {q2 q3 c e c0 e0 : Nat} {v : Value} {ps : List Pc} {K : Heap → Prop} (st : StB B H0 H (paRes q2 q3 v c0 e0 ++ ps)) (k : ∀ H', StB B H0 H' (paRes q2 q3 .nilIface c e ++ ps) → K H') :
    VClos Tryz.prog 24 #[.pointer (some ⟨q2, 0, none⟩), .pointer (some ⟨q3, 0, none⟩)] (.panicking (pe (faultV c e))) (.panicking [{ v := faultV c e, recovered := true }]) H K := by
  refine VClos.mk (R := fun H' => StB B H0 H' (paRes q2 q3 .nilIface c e ++ ps)) (callsD_rec (R := fun H' => StB B H0 H' (paRes q2 q3 .nilIface c e ++ ps)) Tryz.func24 rfl ⟨⟨_, rfl⟩, rfl, rfl, rfl, rfl, rfl⟩ (.pan _) rfl ?_) k
  (conv => whnf)
  refine ⟨rfl, ?_⟩
  (conv => whnf); refine ifneq Tryz.underlying20 ?_
  (conv => whnf); refine VDraw.held (fun _ => False) 4 (sq [0,1] (.f 2 (.f 3 .e))) rfl (by kernel_rfl) ?_
  (conv => whnf); refine vta_sure Tryz.underlying27 (fun ms h => by cases h) ?_
  (conv => whnf); refine st1B st 0 ct24 rfl (by simp) rfl fun H1 st1 => ?_
  refine ⟨fun k hk => hk.elim, ?_⟩
  (conv => whnf); refine stNB (cs := faultL c e) st1 1 rfl rfl (Nat.le_refl _) rfl fun H3 st3 => ?_
  refine ⟨fun k hk => hk.elim, ?_⟩
  (conv => whnf)
  have e2 : splice (faultL c0 e0) 0 (faultL c e) = faultL c e := splAll rfl
  rw [e2] at st3
  exact st3
/-- What Parse answers. -/
def PaAns (t : ByteArray) (v : Value) : Prop := match parseM t with
  | .inl (c, p) => v = .tuple #[.nilIface, .agg #[.int .i64 (c : Int), .int .i64 p, .string ⟨#[]⟩]]
  | .inr r => v = .tuple #[nodeV r, .agg #[.int .i64 0, .int .i64 0, .string ⟨#[]⟩]]
theorem fault_z : (Tryz.prog.info? 27).bind (·.zero) = some (faultA 0 0) := by kernel_rfl
theorem ld_fault {H : Heap} {b c e : Nat} (h : Blk H b 27 (faultL c e)) : Cells H b 0 (faultL c e) := h.cells (fun j v hv => by rw [Nat.zero_add]; exact hv)
set_option maxHeartbeats 16000000 in
theorem parse_c {H : Heap} {t : ByteArray} (hE : EscH H) : FnOk Tryz.prog 7 #[.string t] H fun v H' => Agr (Old H) H H' ∧ PaAns t v := by
  refine FnOk.of_defer Tryz.func7 rfl (Tryz.call7 _) ⟨rfl, rfl, rfl, ⟨_, rfl⟩, rfl, rfl⟩ (fun vs w => Tryz.call24 _ w) ?_
  (conv => whnf); refine valloc .nilIface [.nilIface] rfl rfl ?_
  intro q2 H1 hq1 hs1 hb1 ha1
  have st1 := (St.nil H).box hq1 hs1 hb1 ha1
  (conv => whnf); refine valloc (faultA 0 0) (faultL 0 0) fault_z rfl ?_
  intro q3 H2 hq2 hs2 hb2 ha2
  have st2 := st1.box hq2 hs2 hb2 ha2
  replace st2 : StB (Old H) H H2 (paRes q2 q3 .nilIface 0 0) := st2
  by_cases hbig : 1048576 < t.size
  · have d1 : decide (1048576 < (t.size : Int)) = true := decide_eq_true (by omega)
    (conv => whnf); rw [d1]
    (conv => whnf); refine vbuildS Tryz.underlying27 rfl _ rfl (faultL 1 0) rfl ?_
    (conv => whnf); refine st1B st2 0 ct24 rfl (by simp) rfl fun H3 st3 => ?_
    (conv => whnf); refine stNB (cs := faultL 1 0) st3 1 rfl rfl (Nat.le_refl _) rfl fun H4 st4 => ?_
    have e2 : splice (faultL 0 0) 0 (faultL 1 0) = faultL 1 0 := splAll rfl
    rw [e2] at st4
    (conv => whnf); refine ld1 (v := .nilIface) ct24 (by rw [(st4.blk 0 rfl).cell]; rfl) trivial ?_
    (conv => whnf); refine ldN (cs := faultL 1 0) ag27 (ld_fault (st4.blk 1 rfl)) trivial ?_
    refine ⟨st4.old, ?_⟩
    unfold PaAns parseM
    rw [if_pos hbig]
    rfl
  · have d1 : decide (1048576 < (t.size : Int)) = false := decide_eq_false (by omega)
    have hpM : parseM t = prun t ⟨0, openF (-1), []⟩ := by unfold parseM; rw [if_neg hbig]
    have ans : ∀ {c p : Nat}, prun t ⟨0, openF (-1), []⟩ = .inl (c, (p : Int)) → PaAns t (.tuple #[.nilIface, faultA c p]) := fun h => by
      unfold PaAns; rw [hpM, h]; rfl
    (conv => whnf); rw [d1]
    (conv => whnf)
    refine ⟨rfl, ?_⟩
    (conv => whnf); refine vbuildS Tryz.underlying74 rfl _ rfl (scL t 0 (.slice none 0 0)) rfl ?_
    (conv => whnf); refine vbox (scL t 0 (.slice none 0 0)) rfl ?_
    intro s H3 hq3 hs3 hb3 ha3
    have sx3 := ((St.nil H2).box hq3 hs3 hb3 ha3).nils tPl 3
    have a23 : Agr (Old H2) H2 H3 := sx3.old
    have hE2 : EscH H2 := esc_agr hE (B := Old H) hE.2 st2.old
    have hE3 : EscH H3 := esc_agr hE2 (B := Old H2) hE2.2 a23
    have hclos : ∀ {H4 : Heap} {x : Value} (fr : Fr) (K : Heap → Prop), SE (Old H2) H3 t ⟨0, openF (-1), []⟩ x H4 → (∀ (c p : Nat) (H5 : Heap), PaAns t (.tuple #[.nilIface, faultA c p]) → StB (Old H) H H5 (paRes q2 q3 .nilIface c p) → K H5) →
        VClos Tryz.prog 24 #[.pointer (some ⟨q2, 0, none⟩), .pointer (some ⟨q3, 0, none⟩)] (.panicking (pe x)) (.panicking [{ v := x, recovered := true }]) H4 K := fun fr K ⟨c, p, h1, h2, h3⟩ k => by
      subst h2
      exact paclosP (ps := []) (st2.call (a23.trans h3)) fun H5 st5 => k c p H5 (ans h1) st5
    (conv => whnf); refine VCallP.mk (alt_all (by omega) t.size 0 (by omega) (by omega) (Old H2) H3 s [] [] (openF (-1)) [] hE3 hE2.2 (by omega) rfl (by decide) rfl rfl rfl rfl ⟨none, 0, 0, sx3.rebase⟩) ?_ ?_
    · rintro _ H4 ⟨j, f', r, hij, hj, hend, hpr, hcl, hpl, ⟨B1, f1, rfl, s1, a4, ⟨a2, n2, cap2, st4⟩, gv⟩⟩
      obtain ⟨g1, c1, rfl⟩ := gv.fn
      have a24 : Agr (Old H2) H2 H4 := a23.trans a4
      (conv => whnf); refine valloc (.agg rule0.toArray) rule0 rule_z rfl ?_
      intro q5 H5 hq5 hs5 hb5 ha5
      have st5 := st4.box hq5 hs5 hb5 ha5
      (conv => whnf); refine stNBa (cs := ruleL r (.func (.func g1) #[] c1)) st5 2 rfl rfl (by simp [ruleL, rule0]) rfl fun H6 st6 ja6 js6 => ?_
      replace st6 : StB B1 H4 H6 [pSc s t j (.slice a2 n2 cap2), pS tPl 3 a2 n2 cap2 [], pB 77 q5 (splice rule0 0 (ruleL r (.func (.func g1) #[] c1)))] := st6
      rw [spl2 rfl] at st6
      have a26 : Agr (Old H2) H2 H6 := a24.trans fun k hk => st6.old k (s1 k hk)
      (conv => whnf); refine VSeqP.run ?_
      (conv => whnf); refine VCallP.of (pures (ended_p (st6.blk 0 rfl)) fun H7 ha7 => ?_)
      have st7 := st6.call ha7
      have a27 : Agr (Old H2) H2 H7 := a26.trans (ha7.mono fun k hk => old_lt a26 hk)
      by_cases h0 : j < t.size
      · have h41 : bt t j = 41 := by rcases hend with h | h; omega; exact h
        rw [decide_eq_false (show ¬ t.size ≤ j by omega)]
        (conv => whnf); refine VC.fa fl74_1 ?_
        (conv => whnf); refine ld1 (v := .int .i64 ((j : Nat) : Int)) ct3 (by rw [(st7.blk 0 rfl).cell]; rfl) trivial ?_
        (conv => whnf); refine VCallP.mk (sfail_p (c := 20) (e := j)) (fun _ _ h => h.elim) ?_
        rintro _ _ ⟨rfl, rfl⟩
        (conv => whnf)
        refine paclosP (ps := []) (st2.call a27) fun H8 st8 => ?_
        (conv => whnf); refine ld1 (v := .nilIface) ct24 (by rw [(st8.blk 0 rfl).cell]; rfl) trivial ?_
        (conv => whnf); refine ldN (cs := faultL 20 j) ag27 (ld_fault (st8.blk 1 rfl)) trivial ?_
        exact ⟨st8.old, ans (hpr.trans (prun_err (s := ⟨j, f', []⟩) h0 (pstep_close0 h41)))⟩
      · rw [decide_eq_true (show t.size ≤ j by omega)]
        have hfin : prun t ⟨0, openF (-1), []⟩ = (if 2000 < r.nodes then .inl (24, 0) else .inr r) := by
          rw [hpr, prun_end (s := ⟨j, f', []⟩) h0]
          show (if 2000 < ((closeF f').alt.getD .eps).nodes then Sum.inl (24, 0) else Sum.inr ((closeF f').alt.getD .eps)) = _
          rw [hcl]; rfl
        have k5 : Blk H7 q5 77 (ruleL r (.func (.func g1) #[] c1)) := st7.blk 2 rfl
        (conv => whnf); refine VC.fa fl77_0 ?_
        (conv => whnf); refine ld1 (v := .int .i64 ((szR r : Nat) : Int)) ct3 (by rw [k5.cell]; rfl) trivial ?_
        by_cases hn : 2000 < r.nodes
        · have d2 : decide (2000 < ((szR r : Nat) : Int)) = true := decide_eq_true (by unfold szR; omega)
          rw [if_pos hn] at hfin
          have st8 := st2.call a27
          (conv => whnf); rw [d2]
          (conv => whnf); refine vbuildS Tryz.underlying27 rfl _ rfl (faultL 24 0) rfl ?_
          (conv => whnf); refine st1B st8 0 ct24 rfl (by simp) rfl fun H9 st9 => ?_
          (conv => whnf); refine stNB (cs := faultL 24 0) st9 1 rfl rfl (Nat.le_refl _) rfl fun H10 st10 => ?_
          have e2 : splice (faultL 0 0) 0 (faultL 24 0) = faultL 24 0 := splAll rfl
          rw [e2] at st10
          (conv => whnf)
          refine paclosR ?_
          (conv => whnf); refine ld1 (v := .nilIface) ct24 (by rw [(st10.blk 0 rfl).cell]; rfl) trivial ?_
          (conv => whnf); refine ldN (cs := faultL 24 0) ag27 (ld_fault (st10.blk 1 rfl)) trivial ?_
          exact ⟨st10.old, ans (c := 24) (p := 0) hfin⟩
        · have d2 : decide (2000 < ((szR r : Nat) : Int)) = false := decide_eq_false (by unfold szR; omega)
          rw [if_neg hn] at hfin
          (conv => whnf); rw [d2]
          (conv => whnf); refine VC.fa fl77_1 ?_
          (conv => whnf); refine ld1 (v := .func (.func g1) #[] c1) ct75 (by rw [k5.cell]; rfl) trivial ?_
          obtain ⟨g2, c2, hgc, hgrow⟩ := grow_p (gv.frame st7.old fun k hk => hk) (fun k hk => st7.up hk)
          injection hgc with hg1 hg2 hg3
          injection hg1 with hg1
          subst hg1 hg3
          (conv => whnf); rw [cap_arr]; refine VCallP.of (pures (hgrow H7 (Agr.refl _ _)) fun H8 ha8 => ?_)
          have st8 := (st2.call a27).call ha8
          obtain ⟨T1, v1, e1⟩ := nodeV_if r
          (conv => whnf); refine vbuildS Tryz.underlying27 rfl _ rfl (faultL 0 0) rfl ?_
          (conv => whnf); refine st1B st8 0 ct24 rfl (by simp) (nodeV_one r) fun H9 st9 => ?_
          (conv => whnf); refine stNB (cs := faultL 0 0) st9 1 rfl rfl (Nat.le_refl _) rfl fun H10 st10 => ?_
          have e2 : splice (faultL 0 0) 0 (faultL 0 0) = faultL 0 0 := splAll rfl
          rw [e2] at st10
          (conv => whnf)
          refine paclosR ?_
          (conv => whnf); refine ld1 (v := nodeV r) ct24 (by rw [(st10.blk 0 rfl).cell]; rfl) trivial ?_
          (conv => whnf); refine ldN (cs := faultL 0 0) ag27 (ld_fault (st10.blk 1 rfl)) trivial ?_
          refine ⟨st10.old, ?_⟩
          unfold PaAns
          rw [hpM, hfin]
          rfl
    · intro x H4 h
      (conv => whnf)
      refine hclos [] _ h fun c p H5 hans st5 => ?_
      (conv => whnf); refine ld1 (v := .nilIface) ct24 (by rw [(st5.blk 0 rfl).cell]; rfl) trivial ?_
      (conv => whnf); refine ldN (cs := faultL c p) ag27 (ld_fault (st5.blk 1 rfl)) trivial ?_
      exact ⟨st5.old, hans⟩
end Go.Proofs.YtlnmhfhdjnenoaaGreatDoor
/- What the parser tells: the errors' numbers and places, the size of trees; plain law. Faults compared. -/
set_option linter.unusedVariables false
set_option linter.unusedSimpArgs false
set_option maxRecDepth 100000
namespace Go.Proofs.YtlnmhfhdjnenoaaGreatDoor
open Go.VC Go.Lib
def PlOk (t : ByteArray) (f : AF) : Prop := -1 ≤ f.place ∧ f.place ≤ (t.size : Int)
structure PsOk (t : ByteArray) (s : RdS) : Prop where
  f : PlOk t s.f
  fs : ∀ g ∈ s.fs, PlOk t g
def ErOk (t : ByteArray) (c : Nat) (p : Int) : Prop := c ≠ 0 ∧ c ≤ 30 ∧ -1 ≤ p ∧ p ≤ (t.size : Int) + 10
def ToldOk (t : ByteArray) : Sum (Nat × Int) ReM → Prop
  | .inl (c, p) => ErOk t c p
  | .inr r => r.nodes ≤ 2000
theorem upM_no {t : ByteArray} {m i : Nat} {e : Nat × Nat} (h : upM t m i = .inl e) : e.1 = 20 ∧ e.2 ≤ i + 1 := by
  unfold upM at h
  split at h
  · split at h
    · cases h
    · split at h
      · cases h
      · cases h; exact ⟨rfl, Nat.le_refl _⟩
  · cases h
theorem endM_no {t : ByteArray} {p m i : Nat} {n : Int} {e : Nat × Nat} (h : endM t p m n i = .inl e) : (e.1 = 20 ∧ e.2 = i) ∨ (e.1 = 22 ∧ e.2 = p) := by
  unfold endM at h
  split at h
  · split at h
    · cases h; exact .inr ⟨rfl, rfl⟩
    · cases h
  · cases h; exact .inl ⟨rfl, rfl⟩
theorem bracesM_no {t : ByteArray} {i : Nat} {e : Nat × Nat} (h : bracesM t i = .inl e) : e.1 ≠ 0 ∧ e.1 ≤ 30 ∧ e.2 ≤ i + 10 := by
  unfold bracesM at h
  split at h
  · obtain ⟨a1, a2, -⟩ := numM_le (t := t) 3 (i + 1) 0
    generalize numM t 3 (i + 1) 0 = q at *
    split at h
    · rename_i e2 hu
      cases h
      have := upM_no hu
      refine ⟨?_, ?_, ?_⟩ <;> omega
    · rename_i n2 i2 hu
      have hi2 : i2 ≤ i + 9 := by
        unfold upM at hu
        split at hu
        · split at hu
          · cases hu; omega
          · split at hu
            · obtain ⟨b1, b2, -⟩ := numM_le (t := t) 3 (q.2 + 1) 0
              cases hu; omega
            · cases hu
        · cases hu; omega
      rcases endM_no h with ⟨h1, h2⟩ | ⟨h1, h2⟩
      · refine ⟨?_, ?_, ?_⟩ <;> omega
      · refine ⟨?_, ?_, ?_⟩ <;> omega
  · cases h; exact ⟨show (20 : Nat) ≠ 0 by decide, show (20 : Nat) ≤ 30 by decide, show i + 1 ≤ i + 10 by omega⟩
theorem pstep_no {t : ByteArray} {s : RdS} {e : Nat × Nat} (hi : s.i < t.size) (h : pstep t s = .inl e) : e.1 ≠ 0 ∧ e.1 ≤ 30 ∧ e.2 ≤ t.size + 10 := by
  have k : ∀ c : Nat, c ≠ 0 → c ≤ 30 → c ≠ 0 ∧ c ≤ 30 ∧ s.i ≤ t.size + 10 := fun c h1 h2 => ⟨h1, h2, by omega⟩
  unfold pstep at h
  split at h
  · split at h
    · cases h; exact k 20 (by decide) (by decide)
    · split at h
      · rename_i e2 hp
        cases h
        unfold postM at hp
        split at hp
        · cases hp
        · split at hp
          · cases hp
          · split at hp
            · cases hp
            · have := bracesM_no hp
              exact ⟨this.1, this.2.1, by omega⟩
      · cases h
  · split at h
    · cases h
    · split at h
      · cases h
      · split at h
        · split at h
          · cases h; exact k 20 (by decide) (by decide)
          · cases h
        · split at h
          · split at h
            · cases h; exact k 23 (by decide) (by decide)
            · cases h
          · split at h
            · rename_i e2 hr
              cases h
              have := readSet_no hr hi
              exact ⟨show (10 : Nat) ≠ 0 by decide, show (10 : Nat) ≤ 30 by decide, by show e2 ≤ _; omega⟩
            · cases h
theorem pl_settle {t : ByteArray} {f : AF} (h : PlOk t f) : PlOk t (settleF f) := by unfold PlOk; rw [(settle_same f).2.2.2]; exact h
theorem pl_fold {t : ByteArray} {f : AF} (h : PlOk t f) : PlOk t (foldF f) := by unfold PlOk; rw [(fold_same f).2.1]; exact h
theorem pl_close {t : ByteArray} {f : AF} (h : PlOk t f) : PlOk t (closeF f) := by unfold PlOk; rw [(close_same f).2.1]; exact h
theorem pstep_pl {t : ByteArray} {s s' : RdS} (hi : s.i < t.size) (hs : PsOk t s) (h : pstep t s = .inr s') : PsOk t s' := by
  unfold pstep at h
  split at h
  · split at h
    · cases h
    · split at h
      · cases h
      · cases h; exact ⟨hs.f, hs.fs⟩
  · split at h
    · cases h; exact ⟨pl_close hs.f, hs.fs⟩
    · split at h
      · cases h; exact ⟨pl_fold hs.f, hs.fs⟩
      · split at h
        · split at h
          · cases h
          · rename_i g r hfs
            cases h
            have := hs.fs
            rw [hfs] at this
            exact ⟨this g List.mem_cons_self, fun x hx => this x (List.mem_cons_of_mem _ hx)⟩
        · split at h
          · split at h
            · cases h
            · cases h
              refine ⟨⟨by show (-1 : Int) ≤ (s.i : Int); omega, by show (s.i : Int) ≤ _; omega⟩, fun g hg => ?_⟩
              rcases List.mem_cons.1 hg with rfl | hg
              · exact pl_settle hs.f
              · exact hs.fs g hg
          · split at h
            · cases h
            · cases h; exact ⟨pl_settle hs.f, hs.fs⟩
theorem pfin_ok {t : ByteArray} {s : RdS} (hs : PsOk t s) : ToldOk t (pfin s) := by
  unfold pfin
  split
  · show ToldOk t (if _ then _ else _)
    split
    · exact ⟨by decide, by decide, by decide, by omega⟩
    · rename_i h; show ReM.nodes _ ≤ 2000; omega
  · have := hs.f
    unfold PlOk at this
    exact ⟨by decide, by decide, this.1, by omega⟩
theorem prunN_ok {t : ByteArray} : ∀ (n : Nat) (s : RdS), PsOk t s → ToldOk t (prunN t n s)
  | 0, s, h => pfin_ok h
  | n + 1, s, h => by
    unfold prunN
    by_cases hi : s.i < t.size
    · rw [if_pos hi]
      cases hp : pstep t s with
      | inl e =>
        have := pstep_no hi hp
        exact ⟨this.1, this.2.1, by show (-1 : Int) ≤ (e.2 : Int); omega, by show (e.2 : Int) ≤ _; omega⟩
      | inr s' => exact prunN_ok n s' (pstep_pl hi h hp)
    · rw [if_neg hi]; exact pfin_ok h
theorem parseM_ok (t : ByteArray) : ToldOk t (parseM t) := by
  unfold parseM
  split
  · exact ⟨by decide, by decide, by decide, by omega⟩
  · exact prunN_ok _ _ ⟨⟨by decide, by show (-1 : Int) ≤ _; omega⟩, fun g hg => by cases hg⟩
theorem parseM_pl {t : ByteArray} {c : Nat} {p : Int} (h : parseM t = .inl (c, p)) : p ≤ 1048600 := by
  have h1 := parseM_ok t
  rw [h] at h1
  obtain ⟨-, -, -, h4⟩ : ErOk t c p := h1
  unfold parseM at h
  split at h
  · cases h; decide
  · omega
/-! ### faults with any place -/
def fiL (c : Nat) (p : Int) : List Value := [.int .i64 (c : Int), .int .i64 p, .string ⟨#[]⟩]
def fiLits (c : Nat) (p : Int) : List Lit := [.int .i64 (c : Int), .int .i64 p, .string []]
theorem fi_lits {c : Nat} {p : Int} (hc : c < 9223372036854775808) (hp : inK .i64 p) : Tryz.prog.keyLits 3 27 (fiL c p) = some (fiLits c p) := by
  have c0 : Tryz.prog.cellsOf 27 = 3 := by kernel_rfl
  have c1 : Tryz.prog.cellsOf 25 = 1 := by kernel_rfl
  have c2 : Tryz.prog.cellsOf 3 = 1 := by kernel_rfl
  have c3 : Tryz.prog.cellsOf 9 = 1 := by kernel_rfl
  have h00 : (⟨#[]⟩ : ByteArray).size ≤ maxLen := Nat.zero_le _
  simp [Program.keyLits, Tryz.underlying27, Tryz.underlying25, Tryz.underlying3, Tryz.underlying9, c0, c1, c2, c3, fiL, fiLits, h00, int_wf9 (inI64 hc), int_wf9 hp]
theorem fiLits_inj {c c' : Nat} {p p' : Int} : decide (c = c' ∧ p = p') = true ↔ fiLits c p = fiLits c' p' := by
  unfold fiLits
  rw [decide_eq_true_eq]
  constructor
  · rintro ⟨rfl, rfl⟩; rfl
  · intro h
    simp only [List.cons.injEq, Lit.int.injEq, true_and, and_true] at h
    exact ⟨by omega, by omega⟩
theorem fi_eq {c c' : Nat} {p p' : Int} (hc : c < 9223372036854775808) (hp : inK .i64 p) (hc' : c' < 9223372036854775808) (hp' : inK .i64 p') {x y : Operand} {S : Nat → Prop} {H : Heap} {K : Value → Prop} (k : K (.bool (decide (c = c' ∧ p = p')))) :
    VDet Tryz.prog (do eqGuard .eql 27 x y (.agg (fiL c p).toArray) (.agg (fiL c' p').toArray); binOp .eql 27 (.agg (fiL c p).toArray) (.agg (fiL c' p').toArray)) S H K :=
  veq (m := 3) (la := fiLits c p) (lb := fiLits c' p') (by kernel_rfl) (by decide) (Tryz.eqGuardType27) rfl rfl (fi_lits hc hp) (fi_lits hc' hp') fiLits_inj k
end Go.Proofs.YtlnmhfhdjnenoaaGreatDoor
/- Nondeterministic automata, plain: what silent edges reach, what a text reaches. -/
set_option linter.unusedVariables false
set_option linter.unusedSimpArgs false
namespace Go.Proofs.YtlnmhfhdjnenoaaGreatDoor
open Go.VC
structure EdM where
  fr : Int
  to : Int
  sil : Bool
  set : BitVec 256
structure NfM where
  st : Int
  start : Int
  fin : Int
  edges : List EdM
def NfM.has (a : NfM) (q : Int) : Bool := decide (0 ≤ q) && decide (q < a.st) && decide (a.st ≤ 65536)
theorem NfM.has_iff {a : NfM} {q : Int} : a.has q = true ↔ 0 ≤ q ∧ q < a.st ∧ a.st ≤ 65536 := by
  unfold NfM.has
  simp only [Bool.and_eq_true, decide_eq_true_eq, and_assoc]
/-- What silent edges reach. -/
inductive Sils (a : NfM) : Int → Int → Prop
  | refl (p : Int) : Sils a p p
  | step {p : Int} {e : EdM} : Sils a p e.fr → e ∈ a.edges → e.sil = true → a.has e.to = true → Sils a p e.to
theorem Sils.trans {a : NfM} {p q r : Int} (h : Sils a p q) (k : Sils a q r) : Sils a p r := by
  induction k with
  | refl => exact h
  | step _ h1 h2 h3 ih => exact .step ih h1 h2 h3
abbrev PS := Int → Prop
def clS (a : NfM) (X : PS) : PS := fun q => ∃ p, X p ∧ Sils a p q
def begS (a : NfM) : PS := clS a fun q => q = a.start ∧ a.has a.start = true
def hopS (a : NfM) (X : PS) (b : Nat) : PS := fun q => ∃ e ∈ a.edges, e.sil = false ∧ e.set.getLsbD b = true ∧ X e.fr ∧ a.has e.to = true ∧ q = e.to
def goS (a : NfM) (X : PS) (b : Nat) : PS := clS a (hopS a X b)
def rchS (a : NfM) (s : List Nat) : PS := s.foldl (goS a) (begS a)
/-- Closed under silent edges. -/
def Shut_ (a : NfM) (X : PS) : Prop := ∀ e ∈ a.edges, e.sil = true → a.has e.to = true → X e.fr → X e.to
theorem clS_in {a : NfM} {X : PS} {q : Int} (h : X q) : clS a X q := ⟨q, h, .refl q⟩
theorem clS_shut (a : NfM) (X : PS) : Shut_ a (clS a X) := fun e h1 h2 h3 ⟨p, hp, hs⟩ => ⟨p, hp, .step hs h1 h2 h3⟩
theorem clS_least {a : NfM} {X Y : PS} (h : ∀ q, X q → Y q) (hs : Shut_ a Y) : ∀ q, clS a X q → Y q := by
  rintro q ⟨p, hp, hq⟩
  induction hq with
  | refl => exact h _ hp
  | step _ h1 h2 h3 ih => exact hs _ h1 h2 h3 ih
theorem clS_has {a : NfM} {X : PS} (h : ∀ q, X q → a.has q = true) : ∀ q, clS a X q → a.has q = true := clS_least h fun e _ _ h3 _ => h3
theorem begS_has (a : NfM) : ∀ q, begS a q → a.has q = true := clS_has fun q ⟨e, h⟩ => e ▸ h
theorem goS_has (a : NfM) (X : PS) (b : Nat) : ∀ q, goS a X b q → a.has q = true := clS_has fun q ⟨e, _, _, _, _, h, hq⟩ => hq ▸ h
theorem rchS_snoc (a : NfM) (s : List Nat) (b : Nat) : rchS a (s ++ [b]) = goS a (rchS a s) b := by unfold rchS; rw [List.foldl_append]; rfl
theorem fold_has (a : NfM) : ∀ (s : List Nat) (X : PS), (∀ q, X q → a.has q = true) → ∀ q, s.foldl (goS a) X q → a.has q = true
  | [], X, h => h
  | b :: s, X, h => fold_has a s (goS a X b) (goS_has a X b)
theorem rchS_has (a : NfM) (s : List Nat) : ∀ q, rchS a s q → a.has q = true := fold_has a s _ (begS_has a)
theorem goS_ext {a : NfM} {X Y : PS} (h : ∀ q, X q ↔ Y q) (b : Nat) : goS a X b = goS a Y b := by
  have : X = Y := funext fun q => propext (h q)
  rw [this]
/-! ### sorted lists -/
theorem srt_uniq : ∀ {l m : List Int}, l.Pairwise (· < ·) → m.Pairwise (· < ·) → (∀ q, q ∈ l ↔ q ∈ m) → l = m
  | [], [], _, _, _ => rfl
  | [], y :: m, _, _, h => by have := (h y).2 (by simp); cases this
  | x :: l, [], _, _, h => by have := (h x).1 (by simp); cases this
  | x :: l, y :: m, hl, hm, h => by
    obtain ⟨h1, h2⟩ := List.pairwise_cons.1 hl
    obtain ⟨k1, k2⟩ := List.pairwise_cons.1 hm
    have hxy : x = y := by
      have hx := (h x).1 (by simp)
      have hy := (h y).2 (by simp)
      rcases List.mem_cons.1 hx with e | hx
      · exact e
      · rcases List.mem_cons.1 hy with e | hy
        · exact e.symm
        · have := h1 y hy; have := k1 x hx; omega
    subst hxy
    congr 1
    refine srt_uniq h2 k2 fun q => ⟨fun hq => ?_, fun hq => ?_⟩
    · rcases List.mem_cons.1 ((h q).1 (by simp [hq])) with e | h3
      · have := h1 q hq; omega
      · exact h3
    · rcases List.mem_cons.1 ((h q).2 (by simp [hq])) with e | h3
      · have := k1 q hq; omega
      · exact h3
open Classical in
/-- The list of a set of states, rising. -/
noncomputable def lstS (X : PS) : List Int := ((List.range 65536).map fun (n : Nat) => (n : Int)).filter fun q => decide (X q)
theorem lstS_srt (X : PS) : (lstS X).Pairwise (· < ·) := by
  unfold lstS
  refine List.Pairwise.filter _ ?_
  rw [List.pairwise_map]
  exact List.pairwise_lt_range.imp fun h => by omega
open Classical in
theorem lstS_mem {X : PS} (h : ∀ q, X q → 0 ≤ q ∧ q < 65536) (q : Int) : q ∈ lstS X ↔ X q := by
  unfold lstS
  rw [List.mem_filter, decide_eq_true_eq, List.mem_map]
  constructor
  · exact fun ⟨_, hx⟩ => hx
  · intro hx
    obtain ⟨h1, h2⟩ := h q hx
    exact ⟨⟨q.toNat, List.mem_range.2 (by omega), by omega⟩, hx⟩
theorem lstS_uniq {X : PS} {l : List Int} (h : ∀ q, X q → 0 ≤ q ∧ q < 65536) (hs : l.Pairwise (· < ·)) (hm : ∀ q, q ∈ l ↔ X q) : l = lstS X :=
  srt_uniq hs (lstS_srt X) fun q => (hm q).trans (lstS_mem h q).symm
theorem lstS_len (X : PS) : (lstS X).length ≤ 65536 := by
  unfold lstS
  exact Nat.le_trans (List.length_filter_le _ _) (by simp)
theorem has_rng {a : NfM} {X : PS} (h : ∀ q, X q → a.has q = true) : ∀ q, X q → 0 ≤ q ∧ q < 65536 := fun q hq => by
  have := NfM.has_iff.1 (h q hq); omega
noncomputable def rchL (a : NfM) (s : List Nat) : List Int := lstS (rchS a s)
theorem rchL_mem (a : NfM) (s : List Nat) (q : Int) : q ∈ rchL a s ↔ rchS a s q := lstS_mem (has_rng (rchS_has a s)) q
open Classical in
noncomputable def accN (a : NfM) (s : List Nat) : Bool := decide (rchS a s a.fin)
theorem accN_iff (a : NfM) (s : List Nat) : accN a s = true ↔ rchS a s a.fin := by unfold accN; simp
/-! ### a text of two parts -/
/-! ### turned round -/
/-- A way through the automaton that reads a text. -/
inductive Way (a : NfM) : Int → List Nat → Int → Prop
  | nil {p : Int} : a.has p = true → Way a p [] p
  | sil {e : EdM} {s : List Nat} {q : Int} : e ∈ a.edges → e.sil = true → a.has e.fr = true → Way a e.to s q → Way a e.fr s q
  | hop {e : EdM} {b : Nat} {s : List Nat} {q : Int} : e ∈ a.edges → e.sil = false → e.set.getLsbD b = true → a.has e.fr = true → Way a e.to s q → Way a e.fr (b :: s) q
theorem Way.ends {a : NfM} {p q : Int} {s : List Nat} (h : Way a p s q) : a.has p = true ∧ a.has q = true := by
  induction h with
  | nil h => exact ⟨h, h⟩
  | sil _ _ h _ ih => exact ⟨h, ih.2⟩
  | hop _ _ _ h _ ih => exact ⟨h, ih.2⟩
theorem Way.app {a : NfM} {p q r : Int} {s t : List Nat} (h : Way a p s q) (k : Way a q t r) : Way a p (s ++ t) r := by
  induction h with
  | nil h => exact k
  | sil h1 h2 h3 _ ih => exact .sil h1 h2 h3 (ih k)
  | hop h1 h2 h3 h4 _ ih => exact .hop h1 h2 h3 h4 (ih k)
theorem sils_way {a : NfM} {p q : Int} (h : Sils a p q) (hp : a.has p = true) : Way a p [] q := by
  induction h with
  | refl => exact .nil hp
  | step _ h1 h2 h3 ih =>
    have := ih.app (.sil h1 h2 ih.ends.2 (.nil h3))
    simpa using this
theorem rch_way (a : NfM) : ∀ (s : List Nat) (q : Int), rchS a s q → Way a a.start s q := by
  have key : ∀ (n : Nat) (s : List Nat), s.length = n → ∀ (q : Int), rchS a s q → Way a a.start s q := by
    intro n
    induction n with
    | zero =>
      intro s hs q h
      obtain rfl := List.eq_nil_of_length_eq_zero hs
      obtain ⟨p, ⟨rfl, hp⟩, hq⟩ := h
      exact sils_way hq hp
    | succ n ih =>
      intro s hs q h
      obtain ⟨t, b, rfl⟩ : ∃ t b, s = t ++ [b] := ⟨s.dropLast, s.getLast (by intro e; subst e; simp at hs), (List.dropLast_concat_getLast _).symm⟩
      rw [rchS_snoc] at h
      obtain ⟨r, ⟨e, h1, h2, h3, h4, h5, rfl⟩, hq⟩ := h
      have w1 := ih t (by simpa using hs) e.fr h4
      exact w1.app (.hop h1 h2 h3 w1.ends.2 (sils_way hq h5))
  exact fun s q h => key s.length s rfl q h
theorem way_rch {a : NfM} {p q : Int} {s : List Nat} (h : Way a p s q) : ∀ (X : PS), Shut_ a X → X p → s.foldl (goS a) X q := by
  induction h with
  | nil h => exact fun X _ hp => hp
  | sil h1 h2 h3 h4 ih => exact fun X hX hp => ih X hX (hX _ h1 h2 h4.ends.1 hp)
  | hop h1 h2 h3 h4 h5 ih => exact fun X hX hp => ih _ (clS_shut _ _) (clS_in ⟨_, h1, h2, h3, hp, h5.ends.1, rfl⟩)
theorem acc_way (a : NfM) (s : List Nat) : accN a s = true ↔ Way a a.start s a.fin := by
  rw [accN_iff]
  exact ⟨rch_way a s a.fin, fun h => way_rch h _ (clS_shut a _) (clS_in ⟨rfl, h.ends.1⟩)⟩
end Go.Proofs.YtlnmhfhdjnenoaaGreatDoor
/- Taking a map's slice out, and laying it again by an update. -/
set_option linter.unusedVariables false
set_option linter.unusedSimpArgs false
namespace Go.VC
section
variable {α β : Type} {Ok : α → Prop} {enc : α → Value} {T : Ty β} {e : TypeId} {b : Nat} {m : α → Option Value} {xs : α → List β} {B : Nat → Prop} {H0 H H' : Heap} {ps : List Pc} {P : Program} {t kt et : TypeId} {a : α}
/-- The slice at a is out, as1 v, holding x; the map itself is as1 it was. -/
def pMQo (Ok : α → Prop) (enc : α → Value) (T : Ty β) (e : TypeId) (b : Nat) (m : α → Option Value) (xs : α → List β) (a : α) (v : Value) (x : List β) : Pc where
  foot k := k = b ∨ slB v k ∨ ∃ c, c ≠ a ∧ slB (slAt m c) k
  ok H := MapW Ok enc H b m ∧ SlO T none_ H 0 e v x ∧ (∀ c, c ≠ a → SlO T none_ H 0 e (slAt m c) (xs c)) ∧ (∀ c c' k, c ≠ a → c' ≠ a → c ≠ c' → slB (slAt m c) k → ¬ slB (slAt m c') k) ∧ (∀ c k, c ≠ a → slB (slAt m c) k → ¬ slB v k) ∧ (∀ c, c ≠ a → ¬ slB (slAt m c) b) ∧ ¬ slB v b
  fr h hp := ⟨hp.1.agr h (.inl rfl), hp.2.1.agr h (fun k hk => .inr (.inl hk)) (fun _ hk => hk.elim), fun c hc => (hp.2.2.1 c hc).agr h (fun k hk => .inr (.inr ⟨c, hc, hk⟩)) (fun _ hk => hk.elim), hp.2.2.2⟩
theorem StB.mqOut (st : StB B H0 H ps) (i : Nat) (hp : ps[i]? = some (pMQ Ok enc T e b m xs)) (a : α) : StB B H0 H (ps.set i (pMQo Ok enc T e b m xs a (slAt m a) (xs a))) := by
  obtain ⟨hmap, hown, hap, hb⟩ := st.at_ i hp
  refine st.say i hp _ ⟨hmap, hown a, fun c _ => hown c, fun c c' k _ _ hcc => hap c c' k hcc, fun c k hc => hap c a k hc, fun c _ => hb c, hb a⟩ fun k hk => ?_
  rcases hk with hk | hk | ⟨c, -, hk⟩
  · exact .inl hk
  · exact .inr ⟨a, hk⟩
  · exact .inr ⟨c, hk⟩
theorem appQo {ty q o l cap2 by_ : Nat} {z v : Value} {x : List β} {ys : List β} {ds : List Value} {tt : TypeId} {K : Value → Heap → Prop} (st : StB B H0 H ps) (i : Nat) (ht : SlT P tt e T.size by_ z) (hp : ps[i]? = some (pMQo Ok enc T e b m xs a v x))
    (hd : Cells H q o ds) (hy : T.reps none_ H ds ys) (hl : l = ys.length) (h1 : ∀ u ∈ ds, u.oneCell' = true) (h63 : x.length + ys.length ≤ maxLen) (hby : (x.length + ys.length) * by_ ≤ 140737488355328)
    (k : ∀ v' H', StB B H0 H' (ps.set i (pMQo Ok enc T e b m xs a v' (x ++ ys))) → Agr (fun k => k < H.size ∧ ¬ slB v k) H H' → K v' H') :
    VEff P (Builtin.append_ #[tt, tt] ty [v, .slice (some ⟨q, o, none⟩) l cap2].toArray) H K := by
  obtain ⟨hmap, hv, hown, hap, hapv, hb, hvb⟩ := st.at_ i hp
  have hlt : ∀ c, c ≠ a → ∀ k, slB (slAt m c) k → k < H.size := fun c hc k hk => (st.in_ i hp (.inr (.inr ⟨c, hc, hk⟩))).2
  have hbl : b < H.size := (st.in_ i hp (.inl rfl)).2
  refine vappendO (T := T) (S := none_) (lo := 0) ht hv (Nat.zero_le _) (fun k hk => hk.elim) hd hy hl h1 h63 hby ?_
  intro v' H' hv' hagr hsz hfr
  refine k v' H' (st.upd i hp (hagr.mono fun k hk => ⟨hk.1, fun hb => hk.2 (.inr (.inl hb))⟩) (pMQo Ok enc T e b m xs a v' (x ++ ys)) ⟨hmap.agr hagr ⟨hbl, hvb⟩, hv', fun c hc => (hown c hc).agr hagr (fun k hk => ⟨hlt c hc k hk, hapv c k hc hk⟩) (fun _ hk => hk.elim), hap, fun c k hc hk hk' => ?_, hb, fun hk => ?_⟩ (fun k hk => ?_) (fun k hk => ?_) hsz) hagr
  · rcases hfr k hk' with h | h
    · exact hapv c k hc hk h
    · have := hlt c hc k hk; omega
  · rcases hfr b hk with h | h
    · exact hvb h
    · omega
  · rcases hk with hk | hk | hk
    · exact .inl (.inl hk)
    · rcases hfr k hk with h | h
      · exact .inl (.inr (.inl h))
      · exact .inr h
    · exact .inl (.inr (.inr hk))
  · rcases hk with hk | hk | ⟨c, hc, hk⟩
    · have : k = b := hk; omega
    · exact (hv'.lt hk).2
    · have := hlt c hc k hk; omega
theorem mputQo {v : Value} {x : List β} {z : Value} {K : Heap → Prop} (st : StB B H0 H ps) (i : Nat) (ht : MapTW P t kt et z) (hk : KeyW P kt Ok enc) (ha : Ok a) (hp : ps[i]? = some (pMQo Ok enc T e b m xs a v x))
    (k : ∀ m' H', StB B H0 H' (ps.set i (pMQ Ok enc T e b m' (upd xs a x))) → K H') : VEffU P (Instr.mapUpdate t (.map (some b)) (enc a) v) H K := by
  obtain ⟨hmap, hv, hown, hap, hapv, hb, hvb⟩ := st.at_ i hp
  refine mputW ht hk ha hmap ?_
  intro H' h1 h2 h3
  have e1 : slAt (put m a (some v)) a = v := slAt_put m a v
  have e2 : ∀ c, c ≠ a → slAt (put m a (some v)) c = slAt m c := fun c hc => slAt_ne hc
  refine k _ H' (st.upd i hp (h2.mono fun k hk hkb => hk.2 (.inl hkb)) (pMQ Ok enc T e b (put m a (some v)) (upd xs a x)) ⟨h1, fun c => ?_, fun c c' k hcc => ?_, fun c => ?_⟩ (fun k hk => ?_) (fun k hk => ?_) (by omega))
  · by_cases hc : c = a
    · subst hc; rw [e1, upd_self]; exact hv.agr h2 (fun k hk hkb => hvb (hkb ▸ hk)) (fun _ hk => hk.elim)
    · rw [e2 c hc, upd_ne hc]; exact (hown c hc).agr h2 (fun k hk hkb => hb c hc (hkb ▸ hk)) (fun _ hk => hk.elim)
  · by_cases hc : c = a
    · subst hc
      rw [e1, e2 c' (Ne.symm hcc)]
      exact fun h1 h2 => hapv c' _ (Ne.symm hcc) h2 h1
    · by_cases hc' : c' = a
      · subst hc'
        rw [e1, e2 c hc]
        exact hapv c _ hc
      · rw [e2 c hc, e2 c' hc']; exact hap c c' k hc hc' hcc
  · by_cases hc : c = a
    · subst hc; rw [e1]; exact hvb
    · rw [e2 c hc]; exact hb c hc
  · refine .inl ?_
    rcases hk with hk | ⟨c, hk⟩
    · exact .inl hk
    · by_cases hc : c = a
      · subst hc; rw [e1] at hk; exact .inr (.inl hk)
      · rw [e2 c hc] at hk; exact .inr (.inr ⟨c, hc, hk⟩)
  · rw [h3]
    rcases hk with hk | ⟨c, hk⟩
    · exact (st.in_ i hp (.inl hk)).2
    · by_cases hc : c = a
      · subst hc; rw [e1] at hk; exact (st.in_ i hp (.inr (.inl hk))).2
      · rw [e2 c hc] at hk; exact (st.in_ i hp (.inr (.inr ⟨c, hc, hk⟩))).2
end
end Go.VC
/- Nondeterministic automata in memory. -/
set_option linter.unusedVariables false
set_option linter.unusedSimpArgs false
set_option maxRecDepth 100000
namespace Go.Proofs.YtlnmhfhdjnenoaaGreatDoor
open Go.VC
/-- An edge of the program's. -/
def edL (e : EdM) : List Value := [.int .i64 e.fr, .int .i64 e.to, .bool e.sil, .int .u64 (wd e.set 0), .int .u64 (wd e.set 1), .int .u64 (wd e.set 2), .int .u64 (wd e.set 3)]
theorem edL_set (e : EdM) : ∀ (j : Nat) (v : Value), (setL e.set)[j]? = some v → (edL e)[3 + j]? = some v := by
  intro j v h
  rw [show 3 + j = j + 3 by omega]
  exact h
def EdM.Ok (e : EdM) : Prop := inK .i64 e.fr ∧ inK .i64 e.to
def tEd : Ty EdM where
  size := 7
  rep _ _ cs e := cs = edL e ∧ e.Ok
  len h := by rw [h.1]; rfl
  frame h _ := h
  mono h _ := h
theorem ed_ones (e : EdM) : (edL e).all (·.oneCell') = true := rfl
/-- An edge of the document's. -/
def edDL (e : EdM) : List Value := [.int .i64 e.fr, .int .i64 e.to, .bool e.sil] ++ bitsL e.set
theorem edDL_len (e : EdM) : (edDL e).length = 259 := by
  unfold edDL
  rw [List.length_append, show (bitsL e.set).length = 256 from bitsTo_len _ _]
  rfl
def tEdD : Ty EdM where
  size := 259
  rep _ _ cs e := cs = edDL e ∧ e.Ok
  len h := by rw [h.1]; exact edDL_len _
  frame h _ := h
  mono h _ := h
theorem edD_ones (e : EdM) : (edDL e).all (·.oneCell') = true := by
  unfold edDL
  rw [List.all_append, bitsL, bits_ones]
  rfl
theorem edDL_bit (e : EdM) {b : Nat} (h : b < 256) : (edDL e)[3 + b]? = some (.bool (e.set.getLsbD b)) := by
  unfold edDL
  rw [List.getElem?_append_right (by simp)]
  simpa using bitsL_get e.set h
def NfM.Rng (a : NfM) : Prop := inK .i64 a.st ∧ inK .i64 a.start ∧ inK .i64 a.fin
def nfL (a : NfM) (v : Value) : List Value := [.int .i64 a.st, .int .i64 a.start, .int .i64 a.fin, v]
/-- An automaton of the program's, to be read. -/
def NfV (S : Nat → Prop) (H : Heap) (v : Value) (a : NfM) : Prop := a.Rng ∧ a.edges.length ≤ 1048576 ∧ ∃ ea ec, v = .agg (nfL a (.slice ea a.edges.length ec)).toArray ∧ SlD tEd S H ea ec a.edges
/-- The document's. -/
def NdV (S : Nat → Prop) (H : Heap) (v : Value) (a : NfM) : Prop := a.Rng ∧ a.edges.length ≤ 1048576 ∧ ∃ ea ec, v = .agg (nfL a (.slice ea a.edges.length ec)).toArray ∧ SlD tEdD S H ea ec a.edges
section
variable {S S' : Nat → Prop} {H H' : Heap} {v : Value} {a : NfM}
theorem NdV.frame (h : NdV S H v a) (k : Agr S H H') : NdV S H' v a := by
  obtain ⟨h1, h0, ea, ec, h2, h3⟩ := h
  exact ⟨h1, h0, ea, ec, h2, h3.frame k⟩
end
theorem edge_z : (Tryz.prog.info? 104).bind (·.zero) = some (.agg #[.int .i64 0, .int .i64 0, .bool false, .int .u64 0, .int .u64 0, .int .u64 0, .int .u64 0]) := rfl
theorem nfa_z : (Tryz.prog.info? 37).bind (·.zero) = some (.agg #[.int .i64 0, .int .i64 0, .int .i64 0, .slice none 0 0]) := rfl
theorem nfd_z : (Tryz.prog.info? 42).bind (·.zero) = some (.agg #[.int .i64 0, .int .i64 0, .int .i64 0, .slice none 0 0]) := rfl
def edDZ : Value := Value.agg (([Value.int .i64 0, Value.int .i64 0, Value.bool false] : List Value) ++ List.replicate 256 (Value.bool false)).toArray
def edZL : List Value := ([Value.int .i64 0, Value.int .i64 0, Value.bool false] : List Value) ++ List.replicate 256 (Value.bool false)
theorem edZL_len : edZL.length = 259 := by simp [edZL]
theorem edgeD_z : (Tryz.prog.info? 106).bind (·.zero) = some edDZ := by kernel_rfl
/-- Boxing an automaton, and reading it. -/
theorem nf_box {S : Nat → Prop} {H : Heap} {v : Value} {a : NfM} {K : Value → Heap → Prop} {t : TypeId} (h : NfV S H v a)
    (k : ∀ ea ec, v = .agg (nfL a (.slice ea a.edges.length ec)).toArray → SlD tEd S H ea ec a.edges → New H (fun b H' => K (.pointer (some ⟨b, 0, none⟩)) H') t (nfL a (.slice ea a.edges.length ec))) : VEff Tryz.prog (Instr.box t v) H K := by
  obtain ⟨hr, hl, ea, ec, rfl, h1⟩ := h
  exact vbox (nfL a (.slice ea a.edges.length ec)) rfl (k ea ec rfl h1)
theorem nd_box {S : Nat → Prop} {H : Heap} {v : Value} {a : NfM} {K : Value → Heap → Prop} {t : TypeId} (h : NdV S H v a)
    (k : ∀ ea ec, v = .agg (nfL a (.slice ea a.edges.length ec)).toArray → SlD tEdD S H ea ec a.edges → New H (fun b H' => K (.pointer (some ⟨b, 0, none⟩)) H') t (nfL a (.slice ea a.edges.length ec))) : VEff Tryz.prog (Instr.box t v) H K := by
  obtain ⟨hr, hl, ea, ec, rfl, h1⟩ := h
  exact vbox (nfL a (.slice ea a.edges.length ec)) rfl (k ea ec rfl h1)
theorem nf_load {S S0 : Nat → Prop} {H : Heap} {a : NfM} {pb : Nat} {ea : Option Addr} {ec : Nat} {K : Value → Prop} {t : TypeId} (hr : a.Rng) (hl : a.edges.length ≤ 1048576) (hb : Blk H pb t (nfL a (.slice ea a.edges.length ec))) (hag : AggT Tryz.prog t 4) (hS : S0 pb) (h1 : SlD tEd S H ea ec a.edges)
    (k : ∀ v, NfV S H v a → K v) : VDet Tryz.prog (Instr.loadAt t (.pointer (some ⟨pb, 0, none⟩))) S0 H K :=
  ldN (cs := nfL a (.slice ea a.edges.length ec)) hag (hb.cells fun j v hv => by rw [Nat.zero_add]; exact hv) hS (k _ ⟨hr, hl, ea, ec, rfl, h1⟩)
theorem nd_load {S S0 : Nat → Prop} {H : Heap} {a : NfM} {pb : Nat} {ea : Option Addr} {ec : Nat} {K : Value → Prop} {t : TypeId} (hr : a.Rng) (hl : a.edges.length ≤ 1048576) (hb : Blk H pb t (nfL a (.slice ea a.edges.length ec))) (hag : AggT Tryz.prog t 4) (hS : S0 pb) (h1 : SlD tEdD S H ea ec a.edges)
    (k : ∀ v, NdV S H v a → K v) : VDet Tryz.prog (Instr.loadAt t (.pointer (some ⟨pb, 0, none⟩))) S0 H K :=
  ldN (cs := nfL a (.slice ea a.edges.length ec)) hag (hb.cells fun j v hv => by rw [Nat.zero_add]; exact hv) hS (k _ ⟨hr, hl, ea, ec, rfl, h1⟩)
/-! ### has -/
theorem has_p {S : Nat → Prop} {H : Heap} {v : Value} {a : NfM} {q : Int} (h : NfV S H v a) : Pure Tryz.prog 64 #[v, .int .i64 q] H (.bool (a.has q)) := by
  refine FnOk.of_vc Tryz.func64 rfl (Tryz.call64 _) ?_
  (conv => whnf); refine nf_box h fun ea ec he h1 => ?_
  subst he
  intro p H1 hp hs1 hb1 ha1
  have st1 := (St.nil H).box hp hs1 hb1 ha1
  by_cases h0 : 0 ≤ q
  · have d0 : decide (0 ≤ q) = true := decide_eq_true h0
    (conv => whnf); rw [d0]
    (conv => whnf); refine fa fl37_0 ?_
    (conv => whnf); refine ld1 (v := .int .i64 a.st) ct3 (by rw [hb1.cell]; rfl) trivial ?_
    by_cases h2 : q < a.st
    · have d1 : decide (q < a.st) = true := decide_eq_true h2
      (conv => whnf); rw [d1]
      (conv => whnf); refine fa fl37_0 ?_
      (conv => whnf); refine ld1 (v := .int .i64 a.st) ct3 (by rw [hb1.cell]; rfl) trivial ?_
      (conv => whnf)
      exact ⟨by unfold NfM.has; rw [d0, d1]; rfl, st1.old⟩
    · have d1 : decide (q < a.st) = false := decide_eq_false h2
      (conv => whnf); rw [d1]
      (conv => whnf)
      exact ⟨by unfold NfM.has; rw [d0, d1]; rfl, st1.old⟩
  · have d0 : decide (0 ≤ q) = false := decide_eq_false h0
    (conv => whnf); rw [d0]
    (conv => whnf)
    exact ⟨by unfold NfM.has; rw [d0]; rfl, st1.old⟩
end Go.Proofs.YtlnmhfhdjnenoaaGreatDoor
/- The library's slices.Sort at []int, by the kit's shelf (laid by its tool); as1 an operation on own slices. -/
set_option linter.unusedVariables false
set_option linter.unusedSimpArgs false
set_option maxRecDepth 100000
namespace Go.VC
open Go.Sort
/-- A function that sorts ints. -/
structure SortsI (P : Program) (f : FuncId) : Prop where
  call : ∀ (args : Array Value) (w : World), (callFunc f args).run P w = .ok (.enter f args) w
  some_ : ∀ (blk off cap : Nat) (zs : List Int) (w : World), Holds (Value.int .i64) w blk off zs.toArray → blk < w.heap.size → zs.length < 4611686018427387904 →
    Calls P f #[.slice (some ⟨blk, off, none⟩) zs.length cap] w fun e w' => e = .returned (.tuple #[]) ∧ ∃ n os, w' = grow (putRow (Value.int .i64) (Sort.ahead w n) blk off (zs.mergeSort fun x y => decide (x ≤ y)).toArray) os
  none_ : ∀ (p : Option Addr) (cap : Nat) (w : World), Calls P f #[.slice p 0 cap] w fun e w' => e = .returned (.tuple #[]) ∧ w' = w
theorem reps_ints {S : Nat → Prop} {H : Heap} : ∀ {xs : List Int} {cs : List Value}, (tInt .i64).reps S H cs xs → cs = xs.map (Value.int .i64) ∧ ∀ x ∈ xs, inK .i64 x
  | [], _, h => by cases h; exact ⟨rfl, fun x hx => by cases hx⟩
  | x :: xs, _, h => by
    obtain ⟨c, r, rfl, ⟨rfl, h1⟩, h2⟩ := h
    obtain ⟨rfl, h3⟩ := reps_ints h2
    refine ⟨rfl, fun y hy => ?_⟩
    rcases List.mem_cons.1 hy with rfl | hy
    · exact h1
    · exact h3 y hy
theorem ints_reps {S : Nat → Prop} {H : Heap} : ∀ {xs : List Int}, (∀ x ∈ xs, inK .i64 x) → (tInt .i64).reps S H (xs.map (Value.int .i64)) xs
  | [], _ => rfl
  | x :: xs, h => ⟨[.int .i64 x], xs.map (Value.int .i64), rfl, ⟨rfl, h x (by simp)⟩, ints_reps fun y hy => h y (by simp [hy])⟩
theorem sortI {P : Program} {f : FuncId} {B : Nat → Prop} {H0 H : Heap} {ps : List Pc} {e : TypeId} {a : Option Addr} {n cap : Nat} {xs : List Int} {K : Value → Heap → Prop} (hf : SortsI P f) (st : StB B H0 H ps) (i : Nat) (hp : ps[i]? = some (pS (tInt .i64) e a n cap xs)) (hlen : xs.length < 4611686018427387904)
    (k : ∀ H', StB B H0 H' (ps.set i (pS (tInt .i64) e a n cap (xs.mergeSort fun x y => decide (x ≤ y)))) → K (.tuple #[]) H') : VCall P f #[.slice a n cap] H K := by
  obtain ⟨hown, -⟩ := st.at_ i hp
  obtain ⟨cs, ⟨hcl, hcase⟩, hreps⟩ := hown
  obtain ⟨rfl, hrng⟩ := reps_ints hreps
  refine ⟨fun w hw => ⟨hf.call _ w, ?_⟩⟩
  subst hw
  rcases hcase with ⟨he, hn0⟩ | ⟨b, c, l, he, -, hb, hnc, hcm, hll, htk⟩
  · injection he with e1 e2 e3
    subst e1; subst e2; subst e3
    obtain rfl := List.eq_nil_of_length_eq_zero hn0
    refine (hf.none_ none 0 w).mono ?_
    rintro _ _ ⟨rfl, rfl⟩
    exact ⟨_, rfl, Env.refl _, k _ (by rw [show ([] : List Int).mergeSort (fun x y => decide (x ≤ y)) = [] by simp]; exact st.say i hp _ (st.at_ i hp) (fun k hk => hk))⟩
  · injection he with e1 e2 e3
    subst e1; subst e2; subst e3
    rw [show xs.length * (tInt .i64).size = xs.length from Nat.mul_one _] at htk
    rw [show cap * (tInt .i64).size = cap from Nat.mul_one _] at hll
    have hbl := (Array.getElem?_eq_some_iff.1 hb).1
    have hsl : (xs.mergeSort fun x y => decide (x ≤ y)).length = xs.length := List.length_mergeSort _
    have hH : Holds (Value.int .i64) w b 0 xs.toArray := holds_of_blockI (e := e) (cur := l.toArray) hb (by simpa using htk)
    refine (hf.some_ b 0 cap xs w hH hbl hlen).mono ?_
    rintro _ w' ⟨rfl, n, os, rfl⟩
    have hbw := heap_sortedI (n := n) (os := os) (xs.mergeSort fun x y => decide (x ≤ y)).toArray hb
    obtain ⟨-, -, -, hsz, hoth⟩ := grownBy_sortedI (w := w) (g := b) (n := n) (os := os) (xs.mergeSort fun x y => decide (x ≤ y)).toArray
    refine ⟨_, rfl, ⟨rfl, rfl, rfl⟩, k _ (st.upd i hp (fun j hj => hoth j hj.1 fun e => ?_) _ ⟨⟨_, ⟨?_, .inr ⟨b, cap, (putCells (Value.int .i64) 0 (xs.mergeSort fun x y => decide (x ≤ y)).toArray l.toArray).toList, ?_, Nat.zero_le _, ?_, by omega, hcm, ?_, ?_⟩⟩, ints_reps fun x hx => hrng x (List.mem_mergeSort.1 hx)⟩, fun k hk => hk.elim⟩ (fun k hk => .inl hk) (fun k hk => ?_) hsz)⟩
    · cases e
      exact hj.2 (.inl ⟨0, _, _, rfl⟩)
    · rw [List.length_map]; exact (Nat.mul_one _).symm
    · rw [hsl]
    · show _ = _
      rw [hbw]
    · rw [Array.length_toList]
      unfold putCells
      rw [Array.size_mapIdx]
      simp only [List.size_toArray, hll]
      exact (Nat.mul_one _).symm
    · rw [show (xs.mergeSort fun x y => decide (x ≤ y)).length * (tInt .i64).size = (xs.mergeSort fun x y => decide (x ≤ y)).length from Nat.mul_one _]
      exact take_putCellsI l.toArray _ (by rw [hsl]; simpa [hll] using hnc)
    · have h1 := (st.in_ i hp hk).2
      exact Nat.lt_of_lt_of_le h1 hsz
end Go.VC
namespace Go.Proofs.YtlnmhfhdjnenoaaGreatDoor
open Go.VC
def sort_ren : Go.Shelf.Ren := ⟨fun | 189 => 89 | 125 => 105 | 257 => 104 | 128 => 121 | 129 => 122 | 294 => 113 | 295 => 114 | 296 => 115 | 297 => 116 | 298 => 117 | 299 => 118 | 216 => 61 | 300 => 119 | 301 => 120 | 328 => 129 | 329 => 130 | 330 => 131 | 331 => 132 | 332 => 133 | 215 => 87 | 343 => 138 | n => n, fun | 28 => 54 | 3 => 3 | 46 => 144 | 0 => 0 | 51 => 202 | 53 => 56 | 4 => 4 | 183 => 196 | 182 => 195 | 131 => 108 | 5 => 5 | 9 => 9 | 218 => 208 | 222 => 212 | 228 => 216 | 229 => 119 | n => n, fun | n => n⟩
theorem lays189 : Go.Proofs.Lays.n189 Tryz.prog sort_ren := {
  mixed := by kernel_rfl
  f125 := Tryz.func105.trans (congrArg some (by kernel_rfl))
  f128 := Tryz.func121.trans (congrArg some (by kernel_rfl))
  f129 := Tryz.func122.trans (congrArg some (by kernel_rfl))
  f189 := Tryz.func89.trans (congrArg some (by kernel_rfl))
  f215 := Tryz.func87.trans (congrArg some (by kernel_rfl))
  f216 := Tryz.func61.trans (congrArg some (by kernel_rfl))
  f257 := Tryz.func104.trans (congrArg some (by kernel_rfl))
  f294 := Tryz.func113.trans (congrArg some (by kernel_rfl))
  f295 := Tryz.func114.trans (congrArg some (by kernel_rfl))
  f296 := Tryz.func115.trans (congrArg some (by kernel_rfl))
  f297 := Tryz.func116.trans (congrArg some (by kernel_rfl))
  f298 := Tryz.func117.trans (congrArg some (by kernel_rfl))
  f299 := Tryz.func118.trans (congrArg some (by kernel_rfl))
  f300 := Tryz.func119.trans (congrArg some (by kernel_rfl))
  f301 := Tryz.func120.trans (congrArg some (by kernel_rfl))
  f328 := Tryz.func129.trans (congrArg some (by kernel_rfl))
  f329 := Tryz.func130.trans (congrArg some (by kernel_rfl))
  f330 := Tryz.func131.trans (congrArg some (by kernel_rfl))
  f331 := Tryz.func132.trans (congrArg some (by kernel_rfl))
  f332 := Tryz.func133.trans (congrArg some (by kernel_rfl))
  f343 := Tryz.func138.trans (congrArg some (by kernel_rfl))
  t0 := Tryz.underlying0
  a0 := Tryz.isAgg0
  z0 := Tryz.sizeOf0
  v0 := Tryz.zeroValue0
  t3 := Tryz.underlying3
  a3 := Tryz.isAgg3
  z3 := Tryz.sizeOf3
  v3 := Tryz.zeroValue3
  t4 := Tryz.underlying4
  a4 := Tryz.isAgg4
  z4 := Tryz.sizeOf4
  v4 := Tryz.zeroValue4
  t5 := Tryz.underlying5
  a5 := Tryz.isAgg5
  z5 := Tryz.sizeOf5
  v5 := Tryz.zeroValue5
  t9 := Tryz.underlying9
  a9 := Tryz.isAgg9
  z9 := Tryz.sizeOf9
  v9 := Tryz.zeroValue9
  t28 := Tryz.underlying54
  a28 := Tryz.isAgg54
  z28 := Tryz.sizeOf54
  v28 := Tryz.zeroValue54
  t46 := Tryz.underlying144
  a46 := Tryz.isAgg144
  z46 := Tryz.sizeOf144
  v46 := Tryz.zeroValue144
  t51 := Tryz.underlying202
  a51 := Tryz.isAgg202
  z51 := Tryz.sizeOf202
  v51 := Tryz.zeroValue202
  t53 := Tryz.underlying56
  a53 := Tryz.isAgg56
  z53 := Tryz.sizeOf56
  v53 := Tryz.zeroValue56
  t131 := Tryz.underlying108
  a131 := Tryz.isAgg108
  z131 := Tryz.sizeOf108
  v131 := Tryz.zeroValue108
  t182 := Tryz.underlying195
  a182 := Tryz.isAgg195
  z182 := Tryz.sizeOf195
  v182 := Tryz.zeroValue195
  t183 := Tryz.underlying196
  a183 := Tryz.isAgg196
  z183 := Tryz.sizeOf196
  v183 := Tryz.zeroValue196
  t218 := Tryz.underlying208
  a218 := Tryz.isAgg208
  z218 := Tryz.sizeOf208
  v218 := Tryz.zeroValue208
  t222 := Tryz.underlying212
  a222 := Tryz.isAgg212
  z222 := Tryz.sizeOf212
  v222 := Tryz.zeroValue212
  t228 := Tryz.underlying216
  a228 := Tryz.isAgg216
  z228 := Tryz.sizeOf216
  v228 := Tryz.zeroValue216
  t229 := Tryz.underlying119
  a229 := Tryz.isAgg119
  z229 := Tryz.sizeOf119
  v229 := Tryz.zeroValue119 }
theorem sorts_ : SortsI Tryz.prog 89 where
  call := Tryz.call89
  some_ := fun blk off cap zs w hH hblk hsz => Any.slices_Sort_int lays189 blk off cap zs w hH hblk hsz
  none_ := fun p cap w => Any.slices_Sort_int_none lays189 p cap w
end Go.Proofs.YtlnmhfhdjnenoaaGreatDoor
/- A range over a function: its rounds, and the code around it (the calculus once more, within a fence that holds everything). -/
set_option linter.unusedVariables false
set_option linter.unusedSimpArgs false
namespace Go.VC
/-- The fence that holds everything; ro: the round that the frame is of. -/
def FW (ro : Option Nat) : Fence := { Fence.wide with round := ro }
theorem roomW (ro : Option Nat) (n : Nat) : (FW ro).room n := fun _ h => by cases h
theorem callsW {ro : Option Nat} {n : Nat} {P : Program} {f : FuncId} {args : Array Value} {w : World} {R : Ending → World → Prop} (h : Calls P f args w R) : CallsIn (FW ro) n P f args w R :=
  ⟨trivial, fun cs _ => (callsIn_wide (n := n).2 h).2 cs (room_wide _)⟩
theorem rowsW {ro : Option Nat} {n : Nat} {P : Program} {row : String} {args : Array Value} {w : World} {R : Value → World → Prop} (h : Rows P row args w R) : RowsIn (FW ro) n P row args w R :=
  fun c cs _ => let ⟨v, w', r, s⟩ := h c cs; ⟨v, w', r, stepsIn_wide.2 s⟩
theorem roundW {ro ro' : Option Nat} {n n' : Nat} {P : Program} {l : Nat} {f : FuncId} {tmps : Array Value} {assign body : Code} {w : World} {R : Ending → World → Prop} (h : RoundIn (FW ro) n P l f tmps assign body w R) : RoundIn (FW ro') n' P l f tmps assign body w R :=
  ⟨trivial, fun c cs _ => h.2 c cs (roomW ro _)⟩
/-- The marks that loops over functions have left. -/
def marks (ds : List Nat) : List Deferred := ds.map fun D => { target := .collected D, args := #[] }
structure AtD (ds : List Nat) (fr : Fr) (a : Act) : Prop where
  tmps : a.tmps.toList = fr
  defers : a.defers = marks ds
theorem AtD.bare {ds : List Nat} {fr : Fr} {a : Act} (h : AtD ds fr a) : At fr { tmps := a.tmps, defers := [] } := ⟨h.tmps, rfl⟩
theorem AtD.evalF {ds : List Nat} {fr : Fr} {a : Act} (h : AtD ds fr a) : a.eval = evF fr := by
  rw [← h.bare.evalF]
  funext x
  cases x <;> rfl
theorem AtD.put {ds : List Nat} {fr : Fr} {a : Act} (h : AtD ds fr a) (dst : Option Tmp) (v : Value) : AtD ds (match dst with | none => fr | some d => fr.set d v) (a.put dst v) := by
  obtain ⟨rfl, h2⟩ := h
  cases dst with
  | none => exact ⟨rfl, h2⟩
  | some d => exact ⟨by simp [Act.put], h2⟩
theorem put_same {a : Act} {dst : Option Tmp} {v v' : Value} (h : ({ tmps := a.tmps, defers := [] } : Act).put dst v = ({ tmps := a.tmps, defers := [] } : Act).put dst v') : a.put dst v = a.put dst v' := by
  cases dst with
  | none => rfl
  | some d =>
    have := congrArg Act.tmps h
    simp only [Act.put] at this ⊢
    rw [this]
theorem op_in {ro : Option Nat} {n : Nat} {P : Program} {o : Oper} {a : Act} {w : World} {K : Value → Heap → Prop} (h : OpOk P o { tmps := a.tmps, defers := [] } w K) (hd : ∀ c, o.op ≠ .defer c) (Q : Exit → Act → World → Prop) :
    o.wpIn (FW ro) n P a w (fun a' w' => ∃ v, a' = a.put o.dst v ∧ Env w w' ∧ K v w'.heap) Q := by
  refine ⟨fun _ _ => trivial, ?_⟩
  rw [Oper.semAt_eq _ _ _ hd]
  have h1 := h (fun e _ w => Q e a w)
  unfold Oper.wp at h1
  have ev : ({ tmps := a.tmps, defers := [] } : Act).eval = a.eval := by funext x; cases x <;> rfl
  rw [ev] at h1
  revert h1
  generalize (execOp a.eval o).run P w = r
  intro h1
  cases r with
  | ok nx w' =>
    cases nx with
    | value v =>
      obtain ⟨v', e, h2, h3⟩ := h1
      exact ⟨v', put_same e, h2, h3⟩
    | skip =>
      obtain ⟨v', e, h2, h3⟩ := h1
      exact ⟨v', put_same e, h2, h3⟩
    | defer d =>
      obtain ⟨v', e, h2, h3⟩ := h1
      have := congrArg Act.defers e
      cases hdst : o.dst <;> rw [hdst] at this <;> simp [Act.put] at this
    | enter f args =>
      refine ⟨(fun h => by cases h), callsW (Calls.mono h1 ?_)⟩
      intro e w'' h2
      cases e with
      | returned v =>
        obtain ⟨v', e, h3, h4⟩ := h2
        exact ⟨v', put_same e, h3, h4⟩
      | panicked c => exact h2
      | outgrown => obtain ⟨_, w, h3⟩ := h2; exact ⟨a, w, h3⟩
    | row row args =>
      refine ⟨(fun h => by cases h), rowsW (Rows.mono h1 ?_)⟩
      intro v w'' h2
      obtain ⟨v', e, h3, h4⟩ := h2
      exact ⟨v', put_same e, h3, h4⟩
    | _ => exact h1.elim
  | halt s w' =>
    cases s <;> first | exact h1 | exact h1.elim
theorem oper_mono {F : Fence} {n : Nat} {P : Program} {o : Oper} {a : Act} {w : World} {N N' : Act → World → Prop} {Q : Exit → Act → World → Prop} (hn : ∀ a w, N a w → N' a w) (h : o.wpIn F n P a w N Q) : o.wpIn F n P a w N' Q := by
  refine ⟨h.1, ?_⟩
  have h1 := h.2
  revert h1
  generalize (o.semAt F.round a.eval).run P w = r
  intro h1
  cases r with
  | ok nx w' =>
    cases nx with
    | value v => exact hn _ _ h1
    | skip => exact hn _ _ h1
    | defer d => exact hn _ _ h1
    | enter f args =>
      refine ⟨h1.1, h1.2.1, fun cs hr => ?_⟩
      obtain ⟨e, w'', fr, h2, h3⟩ := h1.2.2 cs hr
      refine ⟨e, w'', fr, ?_, h3⟩
      cases e with
      | returned v => exact hn _ _ h2
      | panicked c => exact h2
      | outgrown => exact h2
    | row row args => exact ⟨h1.1, h1.2.mono fun v w'' h2 => hn _ _ h2⟩
    | round l f tmps assign body =>
      refine ⟨h1.1, h1.2.mono fun e w'' h2 => ?_⟩
      cases e with
      | returned v => exact hn _ _ h2
      | panicked c => exact h2
      | outgrown => exact h2
    | _ => exact h1.elim
  | halt s w' =>
    cases s <;> first | exact h1 | exact h1.elim
/-! ### yield -/
/-- A call of yield. -/
structure VRound (P : Program) (l : Nat) (args : Array Value) (H : Heap) (K : Value → Heap → Prop) : Prop where
  in_ ::
  out_ : ∀ w : World, w.heap = H → ∃ f tmps assign body, (Instr.yield l args).run P w = .ok (.round l f tmps assign body) w ∧ RoundIn (FW none) 0 P l f tmps assign body w fun e w' => ∃ v, e = .returned v ∧ Env w w' ∧ K v w'.heap
/-- One operation; a call of yield is taken in, a deferred call is not. -/
def yK (P : Program) (o : Oper) (fr : Fr) (H : Heap) (K : Value → Heap → Prop) : Prop :=
  match o.op with
  | .call { callee := .value f, args, .. } => evK fr f fun g => match g with
    | .func (.yield l) first cap => evsK fr args.toList fun vs => VRound P l (first.toList ++ vs).toArray H K
    | _ => opK P false (fun _ => True) o fr H K
  | .defer _ => False
  | _ => opK P false (fun _ => True) o fr H K
theorem VRound.out {P : Program} {l : Nat} {args : Array Value} {H : Heap} {K : Value → Heap → Prop} (h : VRound P l args H K) :
    ∀ w : World, w.heap = H → ∃ f tmps assign body, (Instr.yield l args).run P w = .ok (.round l f tmps assign body) w ∧ RoundIn (FW none) 0 P l f tmps assign body w fun e w' => ∃ v, e = .returned v ∧ Env w w' ∧ K v w'.heap := by exact h.out_
theorem yK_sound {ro : Option Nat} {n : Nat} {P : Program} {o : Oper} {ds : List Nat} {fr : Fr} {a : Act} {w : World} {K : Value → Heap → Prop} (hat : AtD ds fr a) (h : yK P o fr w.heap K) (Q : Exit → Act → World → Prop) :
    o.wpIn (FW ro) n P a w (fun a' w' => ∃ v, a' = a.put o.dst v ∧ Env w w' ∧ K v w'.heap) Q := by
  unfold yK at h
  split at h
  · rename_i f args argTypes ho
    rw [evK_eq] at h
    split at h
    · rename_i l first cap hg
      rw [evsK_eq, ← Array.toList_map] at h
      refine ⟨fun _ _ => trivial, ?_⟩
      rw [Oper.semAt_eq _ _ _ (fun c e => by rw [ho] at e; cases e)]
      obtain ⟨fn, tmps, assign, body, hy, hrnd⟩ := h.out w rfl
      have e : (first.toList ++ (Array.map (evF fr) args).toList).toArray = first ++ Array.map (evF fr) args := Array.ext' (by simp)
      have h3 : (execOp a.eval o).run P w = .ok (.round l fn tmps assign body) w := by
        rw [hat.evalF, ← hy, e]
        simp only [execOp, ho, resolve, hg, Deferred.ofValue]
        simp [invoke, callFunc]
      rw [h3]
      refine ⟨(fun h => by cases h), (roundW hrnd).mono ?_⟩
      rintro e w' ⟨v, rfl, henv, hk⟩
      exact ⟨v, rfl, henv, hk⟩
    · exact op_in (opK_sound hat.bare h) (fun c e => by rw [ho] at e; cases e) Q
  · exact h.elim
  · rename_i h1 h2
    exact op_in (opK_sound hat.bare h) (fun c e => h2 c e) Q
/-- An operation under a condition. -/
def guardYK (P : Program) (o : Oper) (want : Bool) (t : Nat) (fr : Fr) (H : Heap) (K : Fr → Heap → Prop) : Prop :=
  rdK fr t fun v => match v with
    | .bool b => VIte b
      (wrK fr t (.bool true) fun fr1 => match want with
        | true => yK P o fr1 H fun v H' => putK o.dst fr1 v fun fr' => apK K fr' H'
        | false => putK o.dst fr1 undef fun fr' => apK K fr' H)
      (wrK fr t (.bool false) fun fr1 => match want with
        | false => yK P o fr1 H fun v H' => putK o.dst fr1 v fun fr' => apK K fr' H'
        | true => putK o.dst fr1 undef fun fr' => apK K fr' H)
    | .tuple _ => putK o.dst fr undef fun fr' => apK K fr' H
    | _ => False
/-- Operations in the text's order. -/
def opsYK (P : Program) (all : List Oper) (l : List Oper) : Fr → Heap → (Fr → Heap → Prop) → Prop :=
  List.rec (motive := fun _ => Fr → Heap → (Fr → Heap → Prop) → Prop) (fun fr H K => K fr H) (fun o _ ih fr H K =>
    match o.guard with
    | none => yK P o fr H fun v H' => putK o.dst fr v fun fr' => ih fr' H' K
    | some (j, want) => match (all[j]?).bind (·.dst) with
      | none => False
      | some t => guardYK P o want t fr H fun fr' H' => ih fr' H' K) l
theorem opsYK_cons (P : Program) (all rest : List Oper) (o : Oper) (fr : Fr) (H : Heap) (K : Fr → Heap → Prop) : opsYK P all (o :: rest) fr H K =
    (match o.guard with
    | none => yK P o fr H fun v H' => putK o.dst fr v fun fr' => opsYK P all rest fr' H' K
    | some (j, want) => match (all[j]?).bind (·.dst) with
      | none => False
      | some t => guardYK P o want t fr H fun fr' H' => opsYK P all rest fr' H' K) := rfl
theorem opsYK_sound {ro : Option Nat} {n : Nat} {P : Program} {ds : List Nat} {all : List Oper} {Q : Exit → Act → World → Prop} : ∀ (l : List Oper) (fr : Fr) (a : Act) (w : World) (K : Fr → Heap → Prop), AtD ds fr a →
    (∀ fr' a' w', AtD ds fr' a' → Env w w' → K fr' w'.heap → Q .normal a' w') → opsYK P all l fr w.heap K → wpListIn (FW ro) n P all.toArray Q l a w
  | [], fr, a, w, K, hat, hq, h => hq fr a w hat (Env.refl w) h
  | o :: l, fr, a, w, K, hat, hq, h => by
    have go : ∀ (want : Bool), (want = true → yK P o fr w.heap fun v H' => putK o.dst fr v fun fr' => opsYK P all l fr' H' K) →
        (want = false → putK o.dst fr undef fun fr' => opsYK P all l fr' w.heap K) →
        Region.wanted o (yielded all.toArray a.tmps) = want → wpListIn (FW ro) n P all.toArray Q (o :: l) a w := by
      intro want h1 h2 hw
      unfold wpListIn
      rw [hw]
      cases want with
      | true =>
        rw [if_pos rfl]
        refine oper_mono ?_ (yK_sound hat (h1 rfl) Q)
        rintro a' w' ⟨v, rfl, henv, hk⟩
        rw [putK_eq] at hk
        exact opsYK_sound l _ _ _ K (hat.put o.dst v) (fun fr' a' w'' h1 h2 h3 => hq fr' a' w'' h1 (henv.trans h2) h3) hk
      | false =>
        rw [if_neg Bool.false_ne_true]
        have h3 := h2 rfl
        rw [putK_eq] at h3
        exact ⟨fun _ _ => trivial, opsYK_sound l _ _ _ K (hat.put o.dst undef) hq h3⟩
    rw [opsYK_cons] at h
    split at h
    · rename_i hg
      exact go true (fun _ => h) (fun h => by cases h) (by simp [Region.wanted, hg])
    · rename_i j want hg
      split at h
      · exact h.elim
      · rename_i t ht
        unfold guardYK at h
        simp only [apK] at h
        rw [rdK_eq] at h
        split at h
        · rename_i b hb
          have hy := yielded_at hat.bare ht hb
          have hs : fr.set t (.bool b) = fr := rd_set_self hb (by simp [undef])
          cases b <;> cases want <;> simp only [VIte, wrK_eq, hs] at h
          · exact go true (fun _ => h) (fun h => by cases h) (by simp [Region.wanted, hg, hy])
          · exact go false (fun h => by cases h) (fun _ => h) (by simp [Region.wanted, hg, hy])
          · exact go false (fun h => by cases h) (fun _ => h) (by simp [Region.wanted, hg, hy])
          · exact go true (fun _ => h) (fun h => by cases h) (by simp [Region.wanted, hg, hy])
        · rename_i vs hb
          exact go false (fun h => by cases h) (fun _ => h) (by simp [Region.wanted, hg, yielded_no hat.bare ht hb])
        · exact h.elim

/-! ### code -/
abbrev KD := Fr → List Nat → Heap → Prop
def LiftD (w0 : World) (Q : Exit → Fr → List Nat → Heap → Prop) : Exit → Act → World → Prop
  | .panic _, _, _ => False
  | .outgrown, _, _ => False
  | e, a, w => ∃ fr ds, AtD ds fr a ∧ Env w0 w ∧ Q e fr ds w.heap
def exitKD (X : List (Nat × KD)) (id : Nat) (fr : Fr) (ds : List Nat) (H : Heap) : Prop :=
  match X with
  | [] => False
  | (j, k) :: X => match Nat.beq j id with
    | true => k fr ds H
    | false => exitKD X id fr ds H
def QxD (kn : KD) (X : List (Nat × KD)) (kr : KD) (e : Exit) (fr : Fr) (ds : List Nat) (H : Heap) : Prop :=
  match e with
  | .normal => kn fr ds H
  | .exit id => exitKD X id fr ds H
  | .ret => kr fr ds H
  | _ => False
structure VLoopD (P : Program) (ro : Option Nat) (c : Code) (fr : Fr) (ds : List Nat) (H : Heap) (X : List (Nat × KD)) (kr : KD) : Prop where
  in_ ::
  out_ : ∀ (n : Nat) (a : Act) (w : World), AtD ds fr a → w.heap = H → (Code.loop c).wpIn (FW ro) n P (LiftD w (QxD (fun _ _ _ => False) X kr)) a w
/-- A range over a function. -/
structure VRF (P : Program) (g : Operand) (ps : Array Tmp) (assign body : Code) (fr : Fr) (ds : List Nat) (H : Heap) (kn : KD) (X : List (Nat × KD)) (kr : KD) : Prop where
  in_ ::
  out_ : ∀ (n : Nat) (a : Act) (w : World), AtD ds fr a → w.heap = H → (Code.rangeFunc g ps assign body).wpIn (FW none) n P (LiftD w (QxD kn X kr)) a w
def vcI (P : Program) (ro : Option Nat) (c : Code) : Fr → List Nat → Heap → KD → List (Nat × KD) → KD → Prop :=
  Code.rec (motive := fun _ => Fr → List Nat → Heap → KD → List (Nat × KD) → KD → Prop)
    (fun fr ds H kn _ _ => kn fr ds H)
    (fun _ ops draw fr ds H kn _ _ => match draw with
      | false => opsYK P ops.toList ops.toList fr H fun fr' H' => kn fr' ds H'
      | true => False)
    (fun _ _ iha ihb fr ds H kn X kr => iha fr ds H (fun fr' ds' H' => ihb fr' ds' H' kn X kr) X kr)
    (fun c _ _ ihx ihy fr ds H kn X kr => match c with
      | .tmp t => rdK fr t fun v => match v with
        | .bool b => VIte b (wrK fr t (.bool true) fun fr1 => ihx fr1 ds H kn X kr) (wrK fr t (.bool false) fun fr1 => ihy fr1 ds H kn X kr)
        | _ => False
      | _ => False)
    (fun id _ ih fr ds H kn X kr => ih fr ds H kn ((id, kn) :: X) kr)
    (fun c _ fr ds H _ X kr => VLoopD P ro c fr ds H X kr)
    (fun g ps a b _ _ fr ds H kn X kr => match ro with
      | none => VRF P g ps a b fr ds H kn X kr
      | some _ => False)
    (fun id fr ds H _ X _ => exitKD X id fr ds H)
    (fun _ _ _ _ _ _ _ _ => False)
    (fun _ _ _ _ _ _ _ => False)
    (fun _ _ _ _ _ _ _ => False)
    (fun fr ds H _ _ kr => kr fr ds H)
    (fun _ _ _ _ _ _ _ => False) c
section
variable (P : Program) (ro : Option Nat) (a b : Code) (fr : Fr) (ds : List Nat) (H : Heap) (kn : KD) (X : List (Nat × KD)) (kr : KD)
theorem vcI_region (id : Nat) (ops : Array Oper) (draw : Bool) : vcI P ro (.region id ops draw) fr ds H kn X kr = (match draw with
      | false => opsYK P ops.toList ops.toList fr H fun fr' H' => kn fr' ds H'
      | true => False) := rfl
theorem vcI_seq : vcI P ro (.seq a b) fr ds H kn X kr = vcI P ro a fr ds H (fun fr' ds' H' => vcI P ro b fr' ds' H' kn X kr) X kr := rfl
theorem vcI_cond (c : Operand) : vcI P ro (.cond c a b) fr ds H kn X kr = (match c with
      | .tmp t => rdK fr t fun v => match v with
        | .bool x => VIte x (wrK fr t (.bool true) fun fr1 => vcI P ro a fr1 ds H kn X kr) (wrK fr t (.bool false) fun fr1 => vcI P ro b fr1 ds H kn X kr)
        | _ => False
      | _ => False) := rfl
theorem vcI_block (id : Nat) : vcI P ro (.block id a) fr ds H kn X kr = vcI P ro a fr ds H kn ((id, kn) :: X) kr := rfl
theorem vcI_range (g : Operand) (ps : Array Tmp) : vcI P ro (.rangeFunc g ps a b) fr ds H kn X kr = (match ro with
      | none => VRF P g ps a b fr ds H kn X kr
      | some _ => False) := rfl
end
theorem VLoopD.out {P : Program} {ro : Option Nat} {c : Code} {fr : Fr} {ds : List Nat} {H : Heap} {X : List (Nat × KD)} {kr : KD} (h : VLoopD P ro c fr ds H X kr) :
    ∀ (n : Nat) (a : Act) (w : World), AtD ds fr a → w.heap = H → (Code.loop c).wpIn (FW ro) n P (LiftD w (QxD (fun _ _ _ => False) X kr)) a w := by exact h.out_
theorem VRF.out {P : Program} {g : Operand} {ps : Array Tmp} {assign body : Code} {fr : Fr} {ds : List Nat} {H : Heap} {kn : KD} {X : List (Nat × KD)} {kr : KD} (h : VRF P g ps assign body fr ds H kn X kr) :
    ∀ (n : Nat) (a : Act) (w : World), AtD ds fr a → w.heap = H → (Code.rangeFunc g ps assign body).wpIn (FW none) n P (LiftD w (QxD kn X kr)) a w := by exact h.out_
theorem LiftD.env {w0 w1 : World} {Q : Exit → Fr → List Nat → Heap → Prop} (henv : Env w0 w1) : ∀ {e : Exit} {a : Act} {w : World}, LiftD w1 Q e a w → LiftD w0 Q e a w
  | .normal, _, _, ⟨fr, ds, h1, h2, h3⟩ | .exit _, _, _, ⟨fr, ds, h1, h2, h3⟩ | .goto _, _, _, ⟨fr, ds, h1, h2, h3⟩ | .ret, _, _, ⟨fr, ds, h1, h2, h3⟩ => ⟨fr, ds, h1, henv.trans h2, h3⟩
theorem LiftD.mono {w0 : World} {Q Q' : Exit → Fr → List Nat → Heap → Prop} (hq : ∀ e fr ds H, Q e fr ds H → Q' e fr ds H) : ∀ {e : Exit} {a : Act} {w : World}, LiftD w0 Q e a w → LiftD w0 Q' e a w
  | .normal, _, _, ⟨fr, ds, h1, h2, h3⟩ | .exit _, _, _, ⟨fr, ds, h1, h2, h3⟩ | .goto _, _, _, ⟨fr, ds, h1, h2, h3⟩ | .ret, _, _, ⟨fr, ds, h1, h2, h3⟩ => ⟨fr, ds, h1, h2, hq _ _ _ _ h3⟩
theorem seq_liftD {P : Program} {ro : Option Nat} {n : Nat} {x y : Code} {kn k1 : KD} {X : List (Nat × KD)} {kr : KD} {a : Act} {w : World}
    (hx : x.wpIn (FW ro) n P (LiftD w (QxD k1 X kr)) a w)
    (hy : ∀ fr ds a' w', AtD ds fr a' → Env w w' → k1 fr ds w'.heap → y.wpIn (FW ro) n P (LiftD w' (QxD kn X kr)) a' w') : (Code.seq x y).wpIn (FW ro) n P (LiftD w (QxD kn X kr)) a w := by
  refine wpIn_seq (Code.wpIn_mono ?_ hx)
  intro e a' w' h
  cases e with
  | normal =>
    obtain ⟨fr, ds, h1, h2, h3⟩ := h
    exact Code.wpIn_mono (fun e a w h => LiftD.env h2 h) (hy fr ds a' w' h1 h2 h3)
  | exit id => exact h
  | goto l => exact h
  | ret => exact h
  | panic c => exact h
  | outgrown => exact h
theorem vcI_sound {P : Program} {ro : Option Nat} {n : Nat} : ∀ (c : Code) (fr : Fr) (ds : List Nat) (kn : KD) (X : List (Nat × KD)) (kr : KD) (a : Act) (w : World), AtD ds fr a →
    vcI P ro c fr ds w.heap kn X kr → c.wpIn (FW ro) n P (LiftD w (QxD kn X kr)) a w
  | .skip, fr, ds, kn, X, kr, a, w, hat, h => wpIn_skip ⟨fr, ds, hat, Env.refl w, h⟩
  | .region id ops draw, fr, ds, kn, X, kr, a, w, hat, h => by
    rw [vcI_region] at h
    cases draw with
    | false =>
      have := wpIn_region_lit (id := id) (opsYK_sound (ro := ro) (n := n) (all := ops.toList) (Q := LiftD w (QxD kn X kr)) ops.toList fr a w _ hat (fun fr' a' w' h1 h2 h3 => ⟨fr', ds, h1, h2, h3⟩) h)
      simpa using this
    | true => exact h.elim
  | .seq x y, fr, ds, kn, X, kr, a, w, hat, h => by
    rw [vcI_seq] at h
    exact seq_liftD (vcI_sound x fr ds _ X kr a w hat h) fun fr' ds' a' w' h1 _ h3 => vcI_sound y fr' ds' kn X kr a' w' h1 h3
  | .cond c x y, fr, ds, kn, X, kr, a, w, hat, h => by
    rw [vcI_cond] at h
    split at h
    · rename_i t
      rw [rdK_eq] at h
      split at h
      · rename_i b hb
        have hs : fr.set t (.bool b) = fr := rd_set_self hb (by simp [undef])
        have he : a.eval (.tmp t) = .bool b := by rw [hat.evalF]; exact hb
        cases b <;> simp only [VIte, wrK_eq, hs] at h
        · exact wpIn_cond_false he (vcI_sound y fr ds kn X kr a w hat h)
        · exact wpIn_cond_true he (vcI_sound x fr ds kn X kr a w hat h)
      · exact h.elim
    · exact h.elim
  | .block id c, fr, ds, kn, X, kr, a, w, hat, h => by
    rw [vcI_block] at h
    refine wpIn_block (Code.wpIn_mono ?_ (vcI_sound c fr ds kn _ kr a w hat h))
    intro e a' w' h
    cases e with
    | exit id' =>
      obtain ⟨fr', ds', h1, h2, h3⟩ := h
      simp only [QxD, exitKD] at h3
      simp only [Exit.inBlock]
      split at h3
      · rename_i hid
        have := Nat.eq_of_beq_eq_true hid
        rw [if_pos this.symm]
        exact ⟨fr', ds', h1, h2, h3⟩
      · rename_i hid
        have : id ≠ id' := Nat.ne_of_beq_eq_false hid
        rw [if_neg (Ne.symm this)]
        exact ⟨fr', ds', h1, h2, h3⟩
    | normal => exact h
    | goto l => exact h
    | ret => exact h
    | panic c => exact h
    | outgrown => exact h
  | .loop c, fr, ds, kn, X, kr, a, w, hat, h => Code.wpIn_mono (fun e a w => LiftD.mono fun e fr ds H hq => by
      cases e <;> first | exact hq | exact hq.elim) (h.out n a w hat rfl)
  | .exit id, fr, ds, kn, X, kr, a, w, hat, h => wpIn_exit ⟨fr, ds, hat, Env.refl w, h⟩
  | .ret, fr, ds, kn, X, kr, a, w, hat, h => wpIn_ret ⟨fr, ds, hat, Env.refl w, h⟩
  | .rangeFunc g ps x y, fr, ds, kn, X, kr, a, w, hat, h => by
    rw [vcI_range] at h
    cases ro with
    | none => exact h.out n a w hat rfl
    | some l => exact h.elim
  | .scope _, _, _, _, _, _, _, _, _, h => h.elim
  | .label _, _, _, _, _, _, _, _, _, h => h.elim
  | .goto _, _, _, _, _, _, _, _, _, h => h.elim
  | .refuse _, _, _, _, _, _, _, _, _, h => h.elim
/-! ### loops -/
theorem wpIn_loop_rel {P : Program} {ro : Option Nat} {n : Nat} {c : Code} {Q : Exit → Act → World → Prop} (J : Nat → Act → World → Prop)
    (round : ∀ m a w, J m a w → c.wpIn (FW ro) n P (Exit.then (fun a' w' => ∃ m', m' < m ∧ J m' a' w') Q) a w) : ∀ m a w, J m a w → (Code.loop c).wpIn (FW ro) n P Q a w := by
  intro m0 a0 w0 h0 b k cs hro hb hr
  have key : ∀ m a w, J m a w → ∃ e a' w', Q e a' w' ∧ ArrivesIn (Machine.fenced P (FW ro)) P (lone (b.atR a (.code c :: .inLoop c :: k)) cs w) b k cs e a' w' := by
    intro m
    induction m using Nat.strongRecOn with
    | _ m ih =>
      intro a w hI
      obtain ⟨e, a₁, w₁, hq, harr⟩ := round m a w hI b (.inLoop c :: k) cs hro hb hr
      cases e with
      | normal =>
        obtain ⟨m', hlt, hI₁⟩ := hq
        obtain ⟨e₂, a₂, w₂, hq₂, harr₂⟩ := ih m' hlt a₁ w₁ hI₁
        exact ⟨e₂, a₂, w₂, hq₂, .of_steps (StepsIn.trans harr (.one (fenced_calm hb hr rfl) stepR_inLoop)) harr₂⟩
      | exit id => exact ⟨_, a₁, w₁, hq, .pass (x := .inLoop c) rfl (fun _ _ => .inl (by simp)) harr⟩
      | goto l => exact ⟨_, a₁, w₁, hq, .pass (x := .inLoop c) rfl (fun _ _ => .inl (by simp)) harr⟩
      | ret => exact ⟨_, a₁, w₁, hq, .pass (x := .inLoop c) rfl (fun _ _ => .inl (by simp)) harr⟩
      | panic ch => exact ⟨_, a₁, w₁, hq, .pass (x := .inLoop c) rfl (fun _ _ => .inl (by simp)) harr⟩
      | outgrown => exact ⟨_, a₁, w₁, hq, .pass (x := .inLoop c) rfl (fun _ _ => .inl (by simp)) harr⟩
  obtain ⟨e, a', w', hq, harr⟩ := key m0 a0 w0 h0
  exact ⟨e, a', w', hq, .of_steps (.one (fenced_calm hb hr rfl) stepR_loop) harr⟩
theorem VLoopD.mk {P : Program} {ro : Option Nat} {c : Code} {fr : Fr} {ds : List Nat} {H : Heap} {X : List (Nat × KD)} {kr : KD} {α : Type} (ts : List Nat) (enc : α → List Value) (I : α → List Nat → Heap → Prop) (m : α → Heap → Nat)
    (h0 : rdsK fr ts fun vs => ∃ x, vs = enc x ∧ I x ds H)
    (hr : ∀ (x : α) (ds1 : List Nat) (H1 : Heap) (junk : Nat → Value), I x ds1 H1 → havocK junk fr (wset c []) fun fr0 => wrsK fr0 ts (enc x) fun fr1 =>
      vcI P ro c fr1 ds1 H1 (fun fr' ds' H' => keptK (wset c []) fr fr' (rdsK fr' ts fun vs => ∃ y, vs = enc y ∧ I y ds' H' ∧ m y H' < m x H1)) X kr) : VLoopD P ro c fr ds H X kr := by
  generalize wset c [] = ws at hr
  refine ⟨?_⟩
  intro n a w hat hw
  subst hw
  have h0' := h0
  rw [rdsK_eq] at h0'
  obtain ⟨x0, hx0, hi0⟩ := h0'
  let J (k : Nat) (a' : Act) (w' : World) : Prop := ∃ fr' ds' x, AtD ds' fr' a' ∧ Env w w' ∧ havoc (fun _ => undef) fr' ws = havoc (fun _ => undef) fr ws ∧ ts.map (rd fr') = enc x ∧ I x ds' w'.heap ∧ m x w'.heap = k
  refine wpIn_loop_rel J ?_ _ a w ⟨fr, ds, x0, hat, Env.refl w, rfl, hx0, hi0, rfl⟩
  rintro k a1 w1 ⟨fr1, ds1, x1, hat1, henv1, hk1, hx1, hi1, rfl⟩
  have h := hr x1 ds1 w1.heap (rd fr1) hi1
  rw [havocK_eq, wrsK_eq, havoc_of_blank hk1, ← hx1, wrs_self ts fr1] at h
  refine Code.wpIn_mono ?_ (vcI_sound c fr1 ds1 _ X kr a1 w1 hat1 h)
  intro e a2 w2 h2
  cases e with
  | normal =>
    obtain ⟨fr2, ds2, hat2, henv2, h2⟩ := h2
    simp only [QxD, keptK, havocK_eq, rdsK_eq] at h2
    obtain ⟨hk2, y, hy, hiy, hm⟩ := h2
    exact ⟨m y w2.heap, hm, fr2, ds2, y, hat2, henv1.trans henv2, hk2, hy, hiy, rfl⟩
  | exit id => exact LiftD.env henv1 h2
  | goto l => exact LiftD.env henv1 h2
  | ret => exact LiftD.env henv1 h2
  | panic c => exact h2
  | outgrown => exact h2
/-! ### functions -/
/-- A function's end: the marks are taken, then the results are read. -/
structure VRet (P : Program) (rs : List ResultVar) (R : Value → Heap → Prop) (fr : Fr) (ds : List Nat) (H : Heap) : Prop where
  in_ ::
  nd : ds.Nodup
  open_ : ∀ D ∈ ds, H[D]? = some (.deferred (some []))
  res : ∀ H', Agr (fun k => k ∉ ds) H H' → H'.size = H.size → resK P rs fr H' R
theorem VRet.nil {P : Program} {rs : List ResultVar} {R : Value → Heap → Prop} {fr : Fr} {H : Heap} (h : resK P rs fr H R) : VRet P rs R fr [] H :=
  ⟨List.Pairwise.nil, (fun _ h => by cases h), fun H' ha _ => by rw [agr_all (ha.mono fun k _ => by simp)]; exact h⟩
theorem envPut (w : World) (r : Nat) (o : Obj) : Env w (w.putObj r o) := ⟨rfl, rfl, rfl⟩
theorem hwide : FW none = Fence.wide := rfl
theorem leaves_marks {P : Program} {fn : Func} {tmps : Array Value} {R : Ending → World → Prop} : ∀ (ds : List Nat) (w : World), ds.Nodup → (∀ D ∈ ds, w.heap[D]? = some (.deferred (some []))) →
    (∀ w', Env w w' → Agr (fun k => k ∉ ds) w.heap w'.heap → w'.heap.size = w.heap.size → ∃ v, (results fn tmps).run P w' = .ok v w' ∧ R (.returned v) w') → LeavesInM (FW none) 0 P fn tmps R (marks ds) .returning w
  | [], w, _, _, h => by
    obtain ⟨v, h1, h2⟩ := h w (Env.refl w) (Agr.refl _ _) rfl
    exact ⟨v, h1, h2⟩
  | D :: ds, w, hn, ho, h => by
    obtain ⟨hn1, hn2⟩ := List.nodup_cons.1 hn
    have hD := ho D (by simp)
    have hlt := (Array.getElem?_eq_some_iff.1 hD).1
    have ha : Agr (fun k => k ≠ D) w.heap (w.putObj D (.deferred none)).heap := fun k hk => World.putObj_heap_other hk
    refine ⟨by simp, .inl ⟨D, w.putObj D (.deferred none), rfl, run_takeDeferred hD, leaves_marks ds _ hn2 (fun E hE => ?_) fun w' h1 h2 h3 => ?_⟩⟩
    · rw [World.putObj_heap_other (by rintro rfl; exact hn1 hE)]; exact ho E (by simp [hE])
    · refine h w' ((envPut w D _).trans h1) ((ha.mono fun k hk => ?_).trans (h2.mono fun k hk => ?_)) (by rw [h3]; simp)
      · intro e; exact hk (by simp [e])
      · intro e; exact hk (by simp [e])
theorem FnOk.of_vcI {P : Program} {f : FuncId} {fn : Func} {c : Code} {args : Array Value} {H : Heap} {R : Value → Heap → Prop} (hf : P.funcs[f]? = some fn) (hb : fn.body = some c)
    (hcall : ∀ w : World, (callFunc f args).run P w = .ok (.enter f args) w)
    (h : normK (args.toList ++ List.replicate (fn.ntmps - args.size) undef) fun fr => vcI P none c fr [] H (VRet P fn.results.toList R) [] (VRet P fn.results.toList R)) :
    FnOk P f args H R := by
  intro w hw
  subst hw
  refine ⟨hcall w, ?_⟩
  refine (callsIn_wide (n := 0)).1 ?_
  rw [← hwide]
  refine callsIn_of_wp_marks (F := FW none) (n := 0) hf hb trivial ?_
  rw [normK_eq] at h
  have hat : AtD [] (args.toList ++ List.replicate (fn.ntmps - args.size) undef) { tmps := args ++ Array.replicate (fn.ntmps - args.size) undef, defers := [] } := ⟨by simp, rfl⟩
  refine Code.wpIn_mono ?_ (vcI_sound c _ _ _ _ _ _ w hat h)
  intro e a' w' h2
  have fin : ∀ fr ds, AtD ds fr a' → Env w w' → VRet P fn.results.toList R fr ds w'.heap → LeavesInM (FW none) 0 P fn a'.tmps (fun e w'' => ∃ v, e = .returned v ∧ Env w w'' ∧ R v w''.heap) a'.defers .returning w' := by
    intro fr ds h1 h2 h3
    rw [h1.defers]
    refine leaves_marks ds w' h3.nd h3.open_ fun w'' h4 h5 h6 => ?_
    obtain ⟨v, hv, hR⟩ := resK_sound h1.bare (h3.res w''.heap h5 h6)
    exact ⟨v, hv, v, rfl, h2.trans h4, hR⟩
  cases e with
  | normal => obtain ⟨fr, ds, h1, h2, h3⟩ := h2; exact fin fr ds h1 h2 h3
  | ret => obtain ⟨fr, ds, h1, h2, h3⟩ := h2; exact fin fr ds h1 h2 h3
  | exit id => obtain ⟨fr, ds, h1, h2, h3⟩ := h2; exact h3.elim
  | goto l => obtain ⟨fr, ds, h1, h2, h3⟩ := h2; exact h3.elim
  | panic c => exact h2.elim
  | outgrown => exact h2.elim
/-! ### the statement, and its rounds -/
theorem VRF.mk {P : Program} {g : Operand} {ps : Array Tmp} {assign body : Code} {fr : Fr} {ds : List Nat} {H : Heap} {kn : KD} {X : List (Nat × KD)} {kr : KD} (gf : Nat) (lb : Array Value) (hg : evF fr g = .func (.func gf) #[] lb)
    (h : ∀ (rec : LoopState → Option Code → Loop), (∃ fn, rec = fun st pe => { state := st, pending := pe, fn := fn, tmps := fr.toArray, params := ps, assign := assign, body := body, defers := H.size }) →
      FnOk P gf (#[.func (.yield (H.size + 1)) #[] #[]] ++ lb) ((H.push (.deferred (some []))).push (.loop (rec .ready none))) fun _ H2 => ∃ st pe, st ≠ .busy ∧ H2[H.size + 1]? = some (.loop (rec st pe)) ∧
        ((pe = none ∧ kn fr (H.size :: ds) (H2.setIfInBounds (H.size + 1) (.loop (rec .exhausted pe)))) ∨
          (pe = some .ret ∧ kr fr (H.size :: ds) (H2.setIfInBounds (H.size + 1) (.loop (rec .exhausted pe)))))) : VRF P g ps assign body fr ds H kn X kr := by
  refine ⟨?_⟩
  intro n a w hat hw
  subst hw
  refine wpIn_rangeFunc ?_
  intro fn _
  obtain ⟨rec, hrec⟩ : ∃ rec : LoopState → Option Code → Loop, rec = fun st pe => { state := st, pending := pe, fn, tmps := fr.toArray, params := ps, assign, body, defers := w.heap.size } := ⟨_, rfl⟩
  have hk := h rec ⟨fn, hrec⟩
  have hta : a.tmps = fr.toArray := by rw [← hat.tmps]
  obtain ⟨W1, hW1⟩ : ∃ W1, (w.alloc (.deferred (some []))).alloc (.loop (rec .ready none)) = W1 := ⟨_, rfl⟩
  have hW1h : W1.heap = (w.heap.push (.deferred (some []))).push (.loop (rec .ready none)) := by rw [← hW1]; rfl
  have hW1e : Env w W1 := by rw [← hW1]; exact ⟨rfl, rfl, rfl⟩
  obtain ⟨hc1, hc2⟩ := hk W1 hW1h
  refine ⟨w.heap.size + 1, [{ target := .collected w.heap.size, args := #[] }], W1, { target := .fn (.func gf) lb, args := #[.func (.yield (w.heap.size + 1)) #[] #[]] }, W1, gf,
    #[.func (.yield (w.heap.size + 1)) #[] #[]] ++ lb, W1, ?_, ?_, ?_, ?_, ?_, ?_⟩
  · rw [← hW1, hrec, hta]; exact run_enterLoop_outer _ _ _ _ _
  · have hga : a.eval g = .func (.func gf) #[] lb := by rw [hat.evalF]; exact hg
    simp only [resolve, hga]
    simp [go_sem]
  · exact fun _ _ => trivial
  · have e1 : (invoke (.fn (.func gf) lb) #[.func (.yield (w.heap.size + 1)) #[] #[]]).run P W1 = (callFunc gf (#[.func (.yield (w.heap.size + 1)) #[] #[]] ++ lb)).run P W1 := by simp [invoke]
    exact e1.trans hc1
  · intro h; cases h
  · refine callsW (Calls.mono hc2 ?_)
    rintro e W2 ⟨v, rfl, henv2, st, pe, hst, hl, hpe⟩
    refine ⟨pe, W2.putObj (w.heap.size + 1) (.loop { rec st pe with state := .exhausted }), ?_, ?_⟩
    · have := run_endLoop (P := P) hl (by rw [hrec]; exact hst)
      rw [hrec] at this ⊢
      exact this
    · have hat2 : AtD (w.heap.size :: ds) fr { a with defers := [{ target := .collected w.heap.size, args := #[] }] ++ a.defers } := ⟨hat.tmps, by rw [hat.defers]; rfl⟩
      have he2 : Env w (W2.putObj (w.heap.size + 1) (.loop { rec st pe with state := .exhausted })) := (hW1e.trans henv2).trans (envPut W2 _ _)
      have hrx : ({ rec st pe with state := .exhausted } : Loop) = rec .exhausted pe := by rw [hrec]
      have hhp : (W2.putObj (w.heap.size + 1) (.loop { rec st pe with state := .exhausted })).heap = W2.heap.setIfInBounds (w.heap.size + 1) (.loop (rec .exhausted pe)) := by rw [hrx]; rfl
      rcases hpe with ⟨rfl, hpe⟩ | ⟨rfl, hpe⟩
      · exact ⟨fr, _, hat2, he2, by rw [hhp]; exact hpe⟩
      · exact wpIn_ret ⟨fr, _, hat2, he2, by rw [hhp]; exact hpe⟩
theorem fold_wrs : ∀ (l : List (Tmp × Value)) (t : Array Value), ((l.foldl (fun t (x : Tmp × Value) => t.setIfInBounds x.1 x.2) t)).toList = wrs t.toList (l.map (·.1)) (l.map (·.2))
  | [], t => by cases t; rfl
  | (p, v) :: l, t => by
    rw [List.foldl_cons, fold_wrs l]
    simp [wrs]
/-- One round. -/
theorem VRound.mk {P : Program} {l : Nat} {args : Array Value} {H : Heap} {K : Value → Heap → Prop} (r : Loop) (hr : H[l]? = some (.loop r)) (hst : r.state = .ready) (hs : args.size = r.params.size)
    (h : normK (wrs r.tmps.toList r.params.toList args.toList) fun fr => vcI P (some l) r.assign fr [] H (fun fr1 ds1 H1 => ds1 = [] ∧ H1[l]? = some (.loop r) ∧
      vcI P (some l) r.body fr1 [] (H1.setIfInBounds l (.loop { r with state := .busy })) (fun _ _ H2 => H2[l]? = some (.loop { r with state := .busy }) ∧ K (.bool true) (H2.setIfInBounds l (.loop { r with state := .ready, pending := none }))) []
        (fun _ _ H2 => H2[l]? = some (.loop { r with state := .busy }) ∧ K (.bool false) (H2.setIfInBounds l (.loop { r with state := .done, pending := some .ret })))) [] (fun _ _ _ => False)) : VRound P l args H K := by
  refine ⟨?_⟩
  intro w hw
  subst hw
  rw [normK_eq] at h
  refine ⟨_, _, _, _, run_yield hr hs, ?_⟩
  have hfold : ((r.params.zip args).foldl (fun tmps (t, a) => tmps.setIfInBounds t a) r.tmps).toList = wrs r.tmps.toList r.params.toList args.toList := by
    rw [← Array.foldl_toList]
    have := fold_wrs (r.params.zip args).toList r.tmps
    rw [Array.toList_zip] at this ⊢
    rw [show (fun (tmps : Array Value) (x : Tmp × Value) => tmps.setIfInBounds x.1 x.2) = (fun tmps (x : Tmp × Value) => match x with | (t, a) => tmps.setIfInBounds t a) from rfl] at this
    rw [List.map_fst_zip (by simp [hs]), List.map_snd_zip (by simp [hs])] at this
    exact this
  have hro : FW (some l) = (FW none).inRound l := rfl
  refine roundW (ro := none) (n := 0) (roundIn_of_wpIn (F := FW none) trivial ?_)
  rw [← hro]
  have hat : AtD [] (wrs r.tmps.toList r.params.toList args.toList) { tmps := (r.params.zip args).foldl (fun tmps (t, a) => tmps.setIfInBounds t a) r.tmps, defers := [] } := ⟨hfold, rfl⟩
  refine Code.wpIn_mono ?_ (vcI_sound r.assign _ [] _ [] _ _ w hat h)
  intro e a1 w1 h1
  cases e with
  | normal =>
    obtain ⟨fr1, ds1, hat1, henv1, rfl, hl1, h1⟩ := h1
    refine ⟨_, run_beginRound hl1 hst, ?_⟩
    have hb := vcI_sound (n := 0) r.body fr1 [] _ [] _ a1 (w1.putObj l (.loop { r with state := .busy })) hat1 h1
    refine Code.wpIn_mono ?_ hb
    intro e a2 w2 h2
    cases e with
    | normal =>
      obtain ⟨fr2, ds2, hat2, henv2, hl2, hk2⟩ := h2
      exact ⟨_, _, run_endRound none hl2, _, rfl, (henv1.trans (envPut w1 l _)).trans (henv2.trans (envPut w2 l _)), hk2⟩
    | ret =>
      obtain ⟨fr2, ds2, hat2, henv2, hl2, hk2⟩ := h2
      exact ⟨_, _, run_endRound (some .ret) hl2, _, rfl, (henv1.trans (envPut w1 l _)).trans (henv2.trans (envPut w2 l _)), hk2⟩
    | exit id => obtain ⟨_, _, _, _, h3⟩ := h2; exact h3.elim
    | goto l => obtain ⟨_, _, _, _, h3⟩ := h2; exact h3.elim
    | panic c => exact h2.elim
    | outgrown => exact h2.elim
  | exit id => obtain ⟨_, _, _, _, h3⟩ := h1; exact h3.elim
  | goto l => obtain ⟨_, _, _, _, h3⟩ := h1; exact h3.elim
  | ret => obtain ⟨_, _, _, _, h3⟩ := h1; exact h3.elim
  | panic c => exact h1.elim
  | outgrown => exact h1.elim
end Go.VC
