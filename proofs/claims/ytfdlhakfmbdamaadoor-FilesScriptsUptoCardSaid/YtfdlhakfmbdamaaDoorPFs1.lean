/- A file system in memory; counter.next, System.room: the walks. -/
import Derived.Test.YtfdlhakfmbdamaaDoorPFl5
set_option linter.unusedVariables false
set_option linter.unusedSimpArgs false
set_option maxRecDepth 100000
namespace Go.VC
theorem StB.left {B : Nat → Prop} {H0 H : Heap} {ps qs : List Pc} (st : StB B H0 H (ps ++ qs)) : StB B H0 H ps :=
  ⟨st.old, st.lt0, st.size, fun p hp => st.oks p (List.mem_append_left _ hp), fun p hp => st.rng p (List.mem_append_left _ hp), (List.pairwise_append.1 st.dis).1⟩
theorem getL {α : Type} {ps qs : List α} {i : Nat} {p : α} (h : ps[i]? = some p) : (ps ++ qs)[i]? = some p := by
  rw [List.getElem?_append_left (List.getElem?_eq_some_iff.1 h).1]; exact h
theorem getR {α : Type} (ps qs : List α) (q : α) : (ps ++ q :: qs)[ps.length]? = some q := by
  rw [List.getElem?_append_right (Nat.le_refl _), Nat.sub_self]; rfl
theorem setL_ {α : Type} {ps qs : List α} {i : Nat} {p q : α} (h : ps[i]? = some p) : (ps ++ qs).set i q = ps.set i q ++ qs :=
  List.set_append_left _ _ (List.getElem?_eq_some_iff.1 h).1
theorem setR_ {α : Type} (ps qs : List α) (p q : α) : (ps ++ p :: qs).set ps.length q = ps ++ q :: qs := by
  rw [List.set_append_right _ _ (Nat.le_refl _), Nat.sub_self]; rfl
theorem getN {α : Type} {ps : List α} {i j : Nat} {p q : α} (h : ps[j]? = some p) (hij : i ≠ j) : (ps.set i q)[j]? = some p := by
  rw [List.getElem?_set_ne hij]; exact h
theorem getS {α : Type} {ps : List α} {i : Nat} {p q : α} (h : ps[i]? = some p) : (ps.set i q)[i]? = some q :=
  List.getElem?_set_self (List.getElem?_eq_some_iff.1 h).1
section
variable {B : Nat → Prop} {H0 H : Heap} {ps : List Pc} {e : TypeId} {b : Nat} {l : List Value}
theorem stNB2 {P : Program} {t o : Nat} {cs : List Value} {K : Heap → Prop} (st : StB B H0 H ps) (i : Nat) (ht : (P.info? t).map (·.size) = some cs.length) (hp : ps[i]? = some (pB e b l)) (ho : o + cs.length ≤ l.length) (hv : cs.all (·.oneCell') = true)
    (k : ∀ H', StB B H0 H' (ps.set i (pB e b (splice l o cs))) → Agr (fun k => k ≠ b) H H' → H'.size = H.size → K H') : VEffU P (Instr.storeAt t (.pointer (some ⟨b, o, none⟩)) (.agg cs.toArray)) H K := by
  refine VC.stN ht (st.at_ i hp) ho hv ?_
  intro H' hb' ha' hs'
  exact k H' (st.upd i hp (ha'.mono fun k hk hkb => hk.2 hkb) _ hb' (fun k hk => .inl hk) (fun k hk => by rw [hs']; exact (st.in_ i hp hk).2) (by omega)) ha' hs'
theorem st1B2 {P : Program} {t o : Nat} {v : Value} {K : Heap → Prop} (st : StB B H0 H ps) (i : Nat) (ht : CellT P t) (hp : ps[i]? = some (pB e b l)) (ho : o < l.length) (hv : v.oneCell' = true)
    (k : ∀ H', StB B H0 H' (ps.set i (pB e b (l.set o v))) → Agr (fun k => k ≠ b) H H' → H'.size = H.size → K H') : VEffU P (Instr.storeAt t (.pointer (some ⟨b, o, none⟩)) v) H K := by
  refine VC.st1 ht (st.at_ i hp) ho hv ?_
  intro H' hb' ha' hs'
  exact k H' (st.upd i hp (ha'.mono fun k hk hkb => hk.2 hkb) _ hb' (fun k hk => .inl hk) (fun k hk => by rw [hs']; exact (st.in_ i hp hk).2) (by omega)) ha' hs'
theorem splice_all {l cs : List Value} (h : cs.length = l.length) : splice l 0 cs = cs := by
  unfold splice; simp [h]
end
end Go.VC
namespace Go.Proofs.YtfdlhakfmbdamaaDoor
open Go.VC
/-- A file system's state: its files, what fails, how often it was read and written. -/
structure Fs where
  files : List (ByteArray × ByteArray)
  fails : List (Bool × Int × Int)
  reads : Nat
  writes : Nat
def lookF (l : List (ByteArray × ByteArray)) (n : ByteArray) : Option ByteArray := (l.find? fun p => decide (p.1 = n)).map (·.2)
def fileV (l : List (ByteArray × ByteArray)) (n : ByteArray) : Option Value := (lookF l n).map fun d => .agg #[.string d]
def lookB (l : List (Bool × Int × Int)) (w : Bool) (c : Int) : Option (Bool × Int × Int) := l.find? fun f => (f.1 == w) && decide (f.2.1 = c)
def breakL (x : Bool × Int × Int) : List Value := [.bool x.1, .int .i64 x.2.1, .int .i64 x.2.2]
def breakV (x : Bool × Int × Int) : Value := .agg (breakL x).toArray
def failV (l : List (Bool × Int × Int)) (w : Bool) (c : Int) : Option Value := (lookB l w c).map breakV
def sysC (fm rm wm : Nat) (r w : Nat) : List Value := [.map (some fm), .int .i64 (r : Int), .map (some rm), .int .i64 (w : Int), .map (some wm)]
/-- A system's four pieces stand at i.. . -/
structure SysAt (ps : List Pc) (i s fm rm wm : Nat) (x : Fs) : Prop where
  p0 : ps[i]? = some (pM Value.string fm (fileV x.files))
  p1 : ps[i + 1]? = some (pB 83 s (sysC fm rm wm x.reads x.writes))
  p2 : ps[i + 2]? = some (pM (Value.int .i64) rm (failV x.fails false))
  p3 : ps[i + 3]? = some (pM (Value.int .i64) wm (failV x.fails true))
theorem mapFi : MapT Tryd.prog 76 9 78 .string (.agg #[.string ⟨#[]⟩]) := ⟨rfl, rfl, rfl⟩
theorem mapFa : MapT Tryd.prog 79 3 68 (.int .i64) (breakV (false, 0, 0)) := ⟨rfl, rfl, rfl⟩
/-- The call of one kind that comes next: does it fail? -/
def hitM (l : List (Bool × Int × Int)) (w : Bool) (c : Int) : Bool × Int × Int := (lookB l w c).getD (false, 0, 0)
theorem hit_get (l : List (Bool × Int × Int)) (w : Bool) (c : Int) : (failV l w c).getD (breakV (false, 0, 0)) = breakV (hitM l w c) := by
  unfold failV hitM
  cases lookB l w c <;> rfl
theorem hit_some (l : List (Bool × Int × Int)) (w : Bool) (c : Int) : (failV l w c).isSome = (lookB l w c).isSome := by
  unfold failV
  cases lookB l w c <;> rfl
set_option maxHeartbeats 4000000 in
theorem next_p {B : Nat → Prop} {H0 H : Heap} {ps : List Pc} {i j s o n mb : Nat} {l : List Value} {fails : List (Bool × Int × Int)} {wr : Bool} (st : StB B H0 H ps) (hp : ps[i]? = some (pB 83 s l)) (hl0 : l[o]? = some (.int .i64 (n : Int))) (hl1 : l[o + 1]? = some (.map (some mb)))
    (hm : ps[j]? = some (pM (Value.int .i64) mb (failV fails wr))) (hij : i ≠ j) (hn : n < 4611686018427387904) :
    FnOk Tryd.prog 23 #[.pointer (some ⟨s, o, none⟩)] H fun v H' => v = .tuple #[breakV (hitM fails wr ((n + 1 : Nat) : Int)), .bool (lookB fails wr ((n + 1 : Nat) : Int)).isSome] ∧ StB B H0 H' (ps.set i (pB 83 s (l.set o (.int .i64 ((n + 1 : Nat) : Int))))) := by
  have hol := (List.getElem?_eq_some_iff.1 hl0).1
  refine FnOk.of_vc Tryd.func23 rfl (Tryd.call23 _) ?_
  (conv => whnf); refine valloc (breakV (false, 0, 0)) (breakL (false, 0, 0)) rfl rfl ?_
  intro q1 H1 hq1 hs1 hb1 ha1
  have st1 := st.box hq1 hs1 hb1 ha1
  (conv => whnf); refine VC.fa fl81_0 ?_
  (conv => whnf); refine ld1 (v := .int .i64 (n : Int)) ct3 (by rw [(st1.blk i (getL hp)).cell]; exact hl0) trivial ?_
  (conv => whnf); rw [w64 (x := (n : Int) + 1) (by omega) (by omega)]
  (conv => whnf); refine VC.fa fl81_0 ?_
  (conv => whnf); refine st1B st1 i ct3 (getL hp) (by omega) rfl fun H2 st2 => ?_
  rw [setL_ hp] at st2
  have hp2 := getS (q := pB 83 s (l.set (o + 0) (.int .i64 ((n : Int) + 1)))) hp
  have hm2' := getN (q := pB 83 s (l.set (o + 0) (.int .i64 ((n : Int) + 1)))) hm hij
  obtain ⟨ps2, hps2⟩ : ∃ x, x = ps.set i (pB 83 s (l.set (o + 0) (.int .i64 ((n : Int) + 1)))) := ⟨_, rfl⟩
  rw [← hps2] at st2 hp2 hm2'
  have hb2 := st2.blk i (getL hp2)
  have hm2 : MapF (Value.int .i64) H2 mb (failV fails wr) := st2.at_ j (getL hm2')
  have hc0 : (l.set (o + 0) (Value.int .i64 ((n : Int) + 1)))[o + 0]? = some (.int .i64 ((n : Int) + 1)) := by
    rw [List.getElem?_set_self (by omega)]
  have hc1 : (l.set (o + 0) (Value.int .i64 ((n : Int) + 1)))[o + 1]? = some (.map (some mb)) := by
    rw [List.getElem?_set_ne (by omega)]; exact hl1
  have hsl : s < H2.size := hb2.lt
  have hml : mb < H2.size := hm2.lt
  (conv => whnf); refine VDraw.held (Old H2) 14 (sq [0,1,2,3,4,5,6,7,8,9,10,11] (.f 12 (.f 13 (.f 14 .e)))) rfl (by kernel_rfl) ?_
  (conv => whnf); refine VC.fa fl81_1 ?_
  (conv => whnf); refine ld1 (v := .map (some mb)) ct79 (by rw [hb2.cell]; exact hc1) hsl ?_
  (conv => whnf); refine VC.fa fl81_0 ?_
  (conv => whnf); refine ld1 (v := .int .i64 ((n : Int) + 1)) ct3 (by rw [hb2.cell]; exact hc0) hsl ?_
  (conv => whnf); refine mlookOk (a := (n : Int) + 1) mapFa (keyI .i64) hm2 hml ?_
  rw [hit_get, hit_some]
  (conv => whnf); refine valloc (breakV (false, 0, 0)) (breakL (false, 0, 0)) rfl rfl ?_
  intro q3 H3 hq3 hs3 hb3 ha3
  have st3 := st2.box hq3 hs3 hb3 ha3
  have ag3 : Agr (Old H2) H2 H3 := ha3.mono fun k hk => by have : k < H2.size := hk; omega
  refine ⟨ag3, ?_⟩
  have hq3i := getR (ps2 ++ [pB 68 q1 (breakL (false, 0, 0))]) [] (pB 68 q3 (breakL (false, 0, 0)))
  (conv => whnf); refine stNB2 (cs := breakL (hitM fails wr ((n : Int) + 1))) st3 _ rfl hq3i (by simp [breakL]) (by simp [breakL]; exact ⟨rfl, rfl, rfl⟩) fun H4 st4 ha4 hs4 => ?_
  have ag4 : Agr (Old H2) H2 H4 := ag3.trans (ha4.mono fun k hk => by have : k < H2.size := hk; omega)
  refine ⟨ag4, ?_⟩
  have hb4 : Blk H4 q3 68 (breakL (hitM fails wr ((n : Int) + 1))) := st4.blk _ (getS hq3i)
  rw [setR_] at st4
  (conv => whnf); refine ldN (cs := breakL (hitM fails wr ((n : Int) + 1))) ag68 (hb4.cells (fun j v hv => by rw [Nat.zero_add]; exact hv)) trivial ?_
  have hq1i : (ps2 ++ [pB 68 q1 (breakL (false, 0, 0))])[ps2.length]? = some (pB 68 q1 (breakL (false, 0, 0))) := getR _ _ _
  (conv => whnf); refine stNB2 (cs := breakL (hitM fails wr ((n : Int) + 1))) st4.left _ rfl hq1i (by simp [breakL]) (by simp [breakL]; exact ⟨rfl, rfl, rfl⟩) fun H5 st5 ha5 hs5 => ?_
  have hb5 : Blk H5 q1 68 (breakL (hitM fails wr ((n : Int) + 1))) := st5.blk _ (getS hq1i)
  rw [setR_] at st5
  (conv => whnf); refine ldN (cs := breakL (hitM fails wr ((n : Int) + 1))) ag68 (hb5.cells (fun j v hv => by rw [Nat.zero_add]; exact hv)) trivial ?_
  have st6 := st5.left
  rw [hps2] at st6
  exact ⟨rfl, st6⟩
end Go.Proofs.YtfdlhakfmbdamaaDoor
