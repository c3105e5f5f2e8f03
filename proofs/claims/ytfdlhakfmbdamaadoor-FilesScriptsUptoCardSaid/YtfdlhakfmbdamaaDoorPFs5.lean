/- System.Write: the walk. -/
import Derived.Test.YtfdlhakfmbdamaaDoorPFs4
set_option linter.unusedVariables false
set_option linter.unusedSimpArgs false
set_option maxRecDepth 100000
namespace Go.VC
theorem vminB {P : Program} {ats : Array TypeId} {t : TypeId} {k k' : IntKind} {a b : Int} {S : Nat → Prop} {H : Heap} {K : Value → Prop} (h : K (.int k (if b < a then b else a))) : VDet P (Builtin.min_ ats t [.int k a, .int k' b].toArray) S H K := by
  refine VDet.mk _ (fun w _ => ?_) h
  simp [Builtin.min_, Builtin.min2]
end Go.VC
namespace Go.Proofs.YtfdlhakfmbdamaaDoor
open Go.VC
/-- What a write that fails leaves. -/
def keepM (l : List (ByteArray × ByteArray)) (name data : ByteArray) (k : Int) : List (ByteArray × ByteArray) := if 0 ≤ k then layM l name (data.extract 0 (min k.toNat data.size)) else l
/-- What Write tells and leaves. -/
def writeM (x : Fs) (name data : ByteArray) : Nat × List (ByteArray × ByteArray) :=
  if goodM name = false then (4, x.files) else if roomM x.files name = false then (3, x.files) else match lookB x.fails true ((x.writes + 1 : Nat) : Int) with
  | some f => (2, keepM x.files name data f.2.2)
  | none => (0, layM x.files name data)
def write1 (x : Fs) (name data : ByteArray) : Fs := { x with files := (writeM x name data).2, writes := x.writes + 1 }
set_option maxHeartbeats 4000000 in
theorem writeN_p {H0 H : Heap} {ps : List Pc} {b o : Nat → Nat} {name data : ByteArray} (sen : SentH H0 b o) (st : St H0 H ps) (hnm : name.size ≤ maxLen) :
    FnOk Tryd.prog 9 #[.pointer none, .string name, .string data] H fun v H' => ∃ q, v = errV (if goodM name then 3 else 4) q ∧ St H0 H' (ps ++ errPs b o wrT name (if goodM name then 3 else 4) q) := by
  refine FnOk.of_vc Tryd.func9 rfl (Tryd.call9 _) ?_
  (conv => whnf); refine peqN Tryd.underlying27 ?_
  (conv => whnf); refine pures (good_p hnm) fun G6 ga6 => ?_
  have st6 := st.call ga6
  have sen6 : SentH G6 b o := sen.agr st6.old
  cases hgd : goodM name with
  | false =>
    (conv => whnf); refine ld1 (v := sentV b o 4) ct35 (sen6.cellG 4 (by decide) (by decide) rfl) trivial ?_
    (conv => whnf); refine vbuildS Tryd.underlying85 rfl _ rfl (peL wrT name (b 4) (o 4)) rfl ?_
    (conv => whnf); refine vbox (peL wrT name (b 4) (o 4)) rfl ?_
    intro q9 H9 hq9 hs9 hb9 ha9
    have st9 := st6.box hq9 hs9 hb9 ha9
    (conv => whnf)
    exact ⟨q9, rfl, st9⟩
  | true =>
    (conv => whnf); refine ld1 (v := sentV b o 3) ct35 (sen6.cellG 3 (by decide) (by decide) rfl) trivial ?_
    (conv => whnf); refine vbuildS Tryd.underlying85 rfl _ rfl (peL wrT name (b 3) (o 3)) rfl ?_
    (conv => whnf); refine vbox (peL wrT name (b 3) (o 3)) rfl ?_
    intro q9 H9 hq9 hs9 hb9 ha9
    have st9 := st6.box hq9 hs9 hb9 ha9
    (conv => whnf)
    exact ⟨q9, rfl, st9⟩
set_option maxHeartbeats 8000000 in
theorem write_p {H0 H : Heap} {ps : List Pc} {i s fm rm wm : Nat} {x : Fs} {b o : Nat → Nat} {name data : ByteArray} (sen : SentH H0 b o) (st : St H0 H ps) (hx : x.writes < 4611686018427387904) (hnm : name.size ≤ maxLen) (hdm : data.size ≤ maxLen)
    (sy : SysAt ps i s fm rm wm x) (hri : Rise x.files) :
    FnOk Tryd.prog 9 #[.pointer (some ⟨s, 0, none⟩), .string name, .string data] H fun v H' => ∃ q, v = errV (writeM x name data).1 q ∧
      St H0 H' (((ps.set (i + 1) (pB 83 s (sysC fm rm wm x.reads (x.writes + 1)))).set i (pM Value.string fm (fileV (writeM x name data).2))) ++ errPs b o wrT name (writeM x name data).1 q) := by
  refine FnOk.of_vc Tryd.func9 rfl (Tryd.call9 _) ?_
  (conv => whnf); refine peqS Tryd.underlying27 ?_
  (conv => whnf); refine VC.fa fl83_2 ?_
  (conv => whnf); refine VCall.mk (next_p (fails := x.fails) (wr := true) (n := x.writes) st sy.p1 rfl rfl sy.p3 (by omega) hx) ?_
  rintro _ G1 ⟨rfl, st1⟩
  have hp0 := getN (q := pB 83 s (sysC fm rm wm x.reads (x.writes + 1))) sy.p0 (show i + 1 ≠ i by omega)
  have hp1 := getS (q := pB 83 s (sysC fm rm wm x.reads (x.writes + 1))) sy.p1
  generalize hps2 : ps.set (i + 1) (pB 83 s (sysC fm rm wm x.reads (x.writes + 1))) = ps2 at hp0 hp1
  replace st1 : St H0 G1 ps2 := by rw [← hps2]; exact st1
  have hset : ps2.set i (pM Value.string fm (fileV x.files)) = ps2 := by
    refine List.ext_getElem? fun j => ?_
    by_cases h : i = j
    · subst h; rw [getS hp0, hp0]
    · rw [List.getElem?_set_ne h]
  (conv => whnf); refine valloc (breakV (false, 0, 0)) (breakL (false, 0, 0)) rfl rfl ?_
  intro q2 G2 hq2 hs2 hb2 ha2
  have st2 := st1.box hq2 hs2 hb2 ha2
  (conv => whnf); refine stNB2 (cs := breakL (hitM x.fails true ((x.writes + 1 : Nat) : Int))) st2 _ rfl (getR _ _ _) (by simp [breakL]) (by simp [breakL]; exact ⟨rfl, rfl, rfl⟩) fun G3 st3 ga3 gs3 => ?_
  rw [setR_] at st3
  (conv => whnf); refine pures (good_p hnm) fun G6 ga6 => ?_
  have st6 := st3.call ga6
  have sen6 : SentH G6 b o := sen.agr st6.old
  cases hgd : goodM name with
  | false =>
    have hrd : writeM x name data = (4, x.files) := by unfold writeM; rw [if_pos hgd]
    rw [hrd, hset]
    (conv => whnf); refine ld1 (v := sentV b o 4) ct35 (sen6.cellG 4 (by decide) (by decide) rfl) trivial ?_
    (conv => whnf); refine vbuildS Tryd.underlying85 rfl _ rfl (peL wrT name (b 4) (o 4)) rfl ?_
    (conv => whnf); refine vbox (peL wrT name (b 4) (o 4)) rfl ?_
    intro q9 H9 hq9 hs9 hb9 ha9
    have st9 := st6.left.box hq9 hs9 hb9 ha9
    (conv => whnf)
    exact ⟨q9, rfl, st9⟩
  | true =>
    have hb6 := st6.left.blk _ hp1
    have hm6 : MapF Value.string G6 fm (fileV x.files) := st6.left.at_ _ hp0
    (conv => whnf); refine pures (room_p hb6 rfl hm6 hri.nodup) fun G7 ga7 => ?_
    have st7 := st6.call ga7
    have sen7 : SentH G7 b o := sen.agr st7.old
    cases hrm : roomM x.files name with
    | false =>
      have hrd : writeM x name data = (3, x.files) := by unfold writeM; rw [if_neg (by rw [hgd]; decide), if_pos hrm]
      rw [hrd, hset]
      (conv => whnf); refine ld1 (v := sentV b o 3) ct35 (sen7.cellG 3 (by decide) (by decide) rfl) trivial ?_
      (conv => whnf); refine vbuildS Tryd.underlying85 rfl _ rfl (peL wrT name (b 3) (o 3)) rfl ?_
      (conv => whnf); refine vbox (peL wrT name (b 3) (o 3)) rfl ?_
      intro q9 H9 hq9 hs9 hb9 ha9
      have st9 := st7.left.box hq9 hs9 hb9 ha9
      (conv => whnf)
      exact ⟨q9, rfl, st9⟩
    | true =>
      have hb7 := st7.left.blk _ hp1
      cases hlk : lookB x.fails true ((x.writes + 1 : Nat) : Int) with
      | none =>
        have hrd : writeM x name data = (0, layM x.files name data) := by unfold writeM; rw [if_neg (by rw [hgd]; decide), if_neg (by rw [hrm]; decide), hlk]
        rw [hrd]
        (conv => whnf); refine VC.fa fl83_0 ?_
        (conv => whnf); refine ld1 (v := .map (some fm)) ct76 (by rw [hb7.cell]; rfl) trivial ?_
        (conv => whnf); refine vbuildS Tryd.underlying78 rfl _ rfl [.string data] rfl ?_
        (conv => whnf); refine mputP (a := name) (m' := fileV (layM x.files name data)) st7.left i mapFi keyS hp0 (fun a' => fileV_lay _ _ _ _) fun G8 st8 => ?_
        (conv => whnf)
        exact ⟨0, rfl, st8.sub (by simp [errPs])⟩
      | some f =>
        have hhit : hitM x.fails true ((x.writes + 1 : Nat) : Int) = f := by unfold hitM; rw [hlk]; rfl
        have hrd : writeM x name data = (2, keepM x.files name data f.2.2) := by unfold writeM; rw [if_neg (by rw [hgd]; decide), if_neg (by rw [hrm]; decide), hlk]
        rw [hrd]
        rw [hhit] at st7
        have hbf : Blk G7 q2 68 (breakL f) := st7.blk _ (getR _ _ _)
        (conv => whnf); try (refine VSeq.run ?_)
        (conv => whnf); refine VC.fa fl68_2 ?_
        (conv => whnf); refine ld1 (v := .int .i64 f.2.2) ct3 (by rw [hbf.cell]; rfl) trivial ?_
        by_cases hk : 0 ≤ f.2.2
        · have d1 : decide (f.2.2 ≥ 0) = true := decide_eq_true hk
          have hkm : keepM x.files name data f.2.2 = layM x.files name (data.extract 0 (min f.2.2.toNat data.size)) := if_pos hk
          (conv => whnf); rw [d1]
          (conv => whnf); refine VDraw.held (Old G7) 13 (sq [0,1,2,3,4,5,6,7,8,9,10,11,12] (.f 13 .e)) rfl (by kernel_rfl) ?_
          (conv => whnf); refine VC.fa fl83_0 ?_
          (conv => whnf); refine ld1 (v := .map (some fm)) ct76 (by rw [hb7.cell]; rfl) hb7.lt ?_
          (conv => whnf); refine VC.fa fl68_2 ?_
          (conv => whnf); refine ld1 (v := .int .i64 f.2.2) ct3 (by rw [hbf.cell]; rfl) hbf.lt ?_
          (conv => whnf); refine vminB ?_
          have hmin : (if (data.size : Int) < f.2.2 then (data.size : Int) else f.2.2) = ((min f.2.2.toNat data.size : Nat) : Int) := by
            split <;> omega
          rw [hmin]
          (conv => whnf); refine vcutSH strT25 (by omega) (by omega) ?_
          (conv => whnf); refine vbuildS Tryd.underlying78 rfl _ rfl [.string (data.extract 0 (min f.2.2.toNat data.size))] rfl ?_
          (conv => whnf); refine mputP (a := name) (m' := fileV (keepM x.files name data f.2.2)) st7.left i mapFi keyS hp0 (fun a' => by rw [hkm]; exact fileV_lay _ _ _ _) fun G8 st8 => ?_
          have sen8 : SentH G8 b o := sen.agr st8.old
          (conv => whnf); refine ld1 (v := sentV b o 2) ct35 (sen8.cellG 2 (by decide) (by decide) rfl) trivial ?_
          (conv => whnf); refine vbuildS Tryd.underlying85 rfl _ rfl (peL wrT name (b 2) (o 2)) rfl ?_
          (conv => whnf); refine vbox (peL wrT name (b 2) (o 2)) rfl ?_
          intro q9 H9 hq9 hs9 hb9 ha9
          have st9 := st8.box hq9 hs9 hb9 ha9
          (conv => whnf)
          exact ⟨q9, rfl, st9⟩
        · have d1 : decide (f.2.2 ≥ 0) = false := decide_eq_false (by omega)
          have hkm : keepM x.files name data f.2.2 = x.files := if_neg hk
          rw [hkm, hset]
          (conv => whnf); rw [d1]
          (conv => whnf); refine ld1 (v := sentV b o 2) ct35 (sen7.cellG 2 (by decide) (by decide) rfl) trivial ?_
          (conv => whnf); refine vbuildS Tryd.underlying85 rfl _ rfl (peL wrT name (b 2) (o 2)) rfl ?_
          (conv => whnf); refine vbox (peL wrT name (b 2) (o 2)) rfl ?_
          intro q9 H9 hq9 hs9 hb9 ha9
          have st9 := st7.left.box hq9 hs9 hb9 ha9
          (conv => whnf)
          exact ⟨q9, rfl, st9⟩
end Go.Proofs.YtfdlhakfmbdamaaDoor
