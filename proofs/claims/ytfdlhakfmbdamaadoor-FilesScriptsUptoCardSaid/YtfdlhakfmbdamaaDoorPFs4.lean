/- System.Read, System.Write: the walks. -/
import Derived.Test.YtfdlhakfmbdamaaDoorPFs3
set_option linter.unusedVariables false
set_option linter.unusedSimpArgs false
set_option maxRecDepth 100000
namespace Go.Proofs.YtfdlhakfmbdamaaDoor
open Go.VC
/-- The variables that hold the causes. -/
def errG : Nat → Nat
  | 1 => 3
  | 2 => 2
  | 3 => 0
  | _ => 1
abbrev sentV (b o : Nat → Nat) (n : Nat) : Value := .iface 141 (.pointer (some ⟨b n, o n, none⟩))
structure SentH (H : Heap) (b o : Nat → Nat) : Prop where
  glob : ∀ n, 1 ≤ n → n ≤ 4 → VC.cell H (errG n) 0 = some (sentV b o n)
  gt : ∀ n, 1 ≤ n → n ≤ 4 → errG n < H.size
  text : ∀ n, 1 ≤ n → n ≤ 4 → VC.cell H (b n) (o n) = some (.string (causeT n))
  row : ∀ n, 1 ≤ n → n ≤ 4 → ∃ c t, H[b n]? = some (.cells c t (0, 0))
  inj : ∀ m n, 1 ≤ m → m ≤ 4 → 1 ≤ n → n ≤ 4 → b m = b n → o m = o n → m = n
theorem SentH.agr {H H' : Heap} {b o : Nat → Nat} (h : SentH H b o) (k : Agr (Old H) H H') : SentH H' b o := by
  have hb : ∀ n, 1 ≤ n → n ≤ 4 → b n < H.size := fun n h1 h2 => by
    obtain ⟨c, t, e⟩ := h.row n h1 h2
    exact (Array.getElem?_eq_some_iff.1 e).1
  refine ⟨fun n h1 h2 => ?_, fun n h1 h2 => old_lt k (h.gt n h1 h2), fun n h1 h2 => ?_, fun n h1 h2 => ?_, h.inj⟩
  · rw [cell_eq (k _ (h.gt n h1 h2))]; exact h.glob n h1 h2
  · rw [cell_eq (k _ (hb n h1 h2))]; exact h.text n h1 h2
  · rw [k _ (hb n h1 h2)]; exact h.row n h1 h2
theorem SentH.cellG {H : Heap} {b o : Nat → Nat} (h : SentH H b o) (n : Nat) (h1 : 1 ≤ n) (h2 : n ≤ 4) {g : Nat} (hg : errG n = g) : VC.cell H g 0 = some (sentV b o n) := by subst hg; exact h.glob n h1 h2
theorem SentH.ltG {H : Heap} {b o : Nat → Nat} (h : SentH H b o) (n : Nat) (h1 : 1 ≤ n) (h2 : n ≤ 4) {g : Nat} (hg : errG n = g) : g < H.size := by subst hg; exact h.gt n h1 h2
/-- An error's value, and the block that it lies in. -/
def errV (n q : Nat) : Value := match n with
  | 0 => .nilIface
  | _ => .iface 61 (.pointer (some ⟨q, 0, none⟩))
def errPs (b o : Nat → Nat) (op name : ByteArray) (n q : Nat) : List Pc := match n with
  | 0 => []
  | n => [pB 85 q (peL op name (b n) (o n))]
/-- What Read tells: the contents, the cause. -/
def readM (x : Fs) (name : ByteArray) : ByteArray × Nat :=
  if goodM name = false then (⟨#[]⟩, 4) else if (lookB x.fails false ((x.reads + 1 : Nat) : Int)).isSome then (⟨#[]⟩, 2) else if (lookF x.files name).isSome = false then (⟨#[]⟩, 1) else (dataM x.files name, 0)
def read1 (x : Fs) : Fs := { x with reads := x.reads + 1 }
/-- Where a system stands among the pieces. -/
structure SysP where
  ps : List Pc
  i : Nat
  s : Nat
  fm : Nat
  rm : Nat
  wm : Nat
structure SysI (H0 : Heap) (x : Fs) (tgt : List Pc) (y : SysP) (G : Heap) : Prop where
  sy : SysAt y.ps y.i y.s y.fm y.rm y.wm x
  ri : Rise x.files
  st : St H0 G y.ps
  fin : ∀ (G1 : Heap) (qs : List Pc), St H0 G1 (y.ps.set (y.i + 1) (pB 83 y.s (sysC y.fm y.rm y.wm (x.reads + 1) x.writes)) ++ qs) → St H0 G1 (tgt ++ qs)
theorem sys_set {s fm rm wm : Nat} {x : Fs} {l : List Value} (h : l = sysC fm rm wm (x.reads + 1) x.writes) : (sysL s fm rm wm x).set 1 (pB 83 s l) = sysL s fm rm wm (read1 x) := by subst h; rfl
set_option maxHeartbeats 8000000 in
theorem read_p {H0 H : Heap} {ps tgt : List Pc} {i s fm rm wm : Nat} {x : Fs} {b o : Nat → Nat} {name : ByteArray} {r : Value} (sen : SentH H0 b o) (st : St H0 H ps) (hx : x.reads < 4611686018427387904) (hnm : name.size ≤ maxLen)
    (hr : (r = .pointer (some ⟨s, 0, none⟩) ∧ SysAt ps i s fm rm wm x ∧ Rise x.files ∧ tgt = ps.set (i + 1) (pB 83 s (sysC fm rm wm (x.reads + 1) x.writes))) ∨ (r = .pointer none ∧ x = newM [] [] ∧ tgt = ps)) :
    FnOk Tryd.prog 10 #[r, .string name] H fun v H' => ∃ q, v = .tuple #[.string (readM x name).1, errV (readM x name).2 q] ∧
      St H0 H' (tgt ++ errPs b o rdT name (readM x name).2 q) := by
  refine FnOk.of_vc Tryd.func10 rfl (Tryd.call10 _) ?_
  (conv => whnf)
  refine VSeq.cut [0] (fun y : SysP => [.pointer (some ⟨y.s, 0, none⟩)]) (fun y G => SysI H0 x tgt y G) ?_ ?_
  · rcases hr with ⟨rfl, sy, hri, htgt⟩ | ⟨rfl, rfl, htgt⟩
    · (conv => whnf); refine peqS Tryd.underlying27 ?_
      (conv => whnf)
      refine ⟨rfl, ⟨ps, i, s, fm, rm, wm⟩, rfl, sy, hri, st, fun G' qs h => by rw [htgt]; exact h⟩
    · (conv => whnf); refine peqN Tryd.underlying27 ?_
      have st1 := (st.nils tFile 33).nils tBrk 68
      (conv => whnf); refine VCall.mk (new_p (i1 := ps.length) (i2 := (ps ++ [pS tFile 33 none 0 0 []]).length) st1 (getL (getR _ _ _)) (getR _ _ _)) ?_
      rintro _ G1 ⟨s', fm', rm', wm', rfl, st2⟩
      have st3 := st2.sub (qs := ps ++ sysL s' fm' rm' wm' (newM [] [])) (List.Sublist.append ((List.sublist_append_left _ _).trans (List.sublist_append_left _ _)) (List.Sublist.refl _))
      (conv => whnf)
      refine ⟨rfl, ⟨ps ++ sysL s' fm' rm' wm' (newM [] []), ps.length, s', fm', rm', wm'⟩, rfl, ⟨g4 ps _ 0, g4 ps _ 1, g4 ps _ 2, g4 ps _ 3⟩, List.Pairwise.nil, st3, fun G' qs h => ?_⟩
      rw [htgt]
      rw [s4] at h
      exact h.sub (List.Sublist.append (List.sublist_append_left _ _) (List.Sublist.refl _))
  · rintro ⟨ps', i', s', fm', rm', wm'⟩ G junk ⟨sy, hri, stg, hend⟩
    (conv => whnf); refine VC.fa fl83_1 ?_
    (conv => whnf); refine VCall.mk (next_p (fails := x.fails) (wr := false) (n := x.reads) stg sy.p1 rfl rfl sy.p2 (by omega) hx) ?_
    rintro _ G1 ⟨rfl, st1⟩
    have hp0 := getN (q := pB 83 s' (sysC fm' rm' wm' (x.reads + 1) x.writes)) sy.p0 (show i' + 1 ≠ i' by omega)
    have hp1 := getS (q := pB 83 s' (sysC fm' rm' wm' (x.reads + 1) x.writes)) sy.p1
    have hend1 := fun G' qs => hend G' qs
    generalize hps2 : ps'.set (i' + 1) (pB 83 s' (sysC fm' rm' wm' (x.reads + 1) x.writes)) = ps2 at hp0 hp1 hend1
    replace st1 : St H0 G1 ps2 := by rw [← hps2]; exact st1
    (conv => whnf); refine valloc (breakV (false, 0, 0)) (breakL (false, 0, 0)) rfl rfl ?_
    intro q2 G2 hq2 hs2 hb2 ha2
    have st2 := st1.box hq2 hs2 hb2 ha2
    (conv => whnf); refine stNB2 (cs := breakL (hitM x.fails false ((x.reads + 1 : Nat) : Int))) st2 _ rfl (getR _ _ _) (by simp [breakL]) (by simp [breakL]; exact ⟨rfl, rfl, rfl⟩) fun G3 st3 ga3 gs3 => ?_
    rw [setR_] at st3
    have hb3 := st3.blk _ (getL hp1)
    have hm3 : MapF Value.string G3 fm' (fileV x.files) := st3.at_ _ (getL hp0)
    (conv => whnf); refine VC.fa fl83_0 ?_
    (conv => whnf); refine ld1 (v := .map (some fm')) ct76 (by rw [hb3.cell]; rfl) trivial ?_
    (conv => whnf); refine mlookOk (a := name) mapFi keyS hm3 trivial ?_
    rw [fileV_get, fileV_some]
    (conv => whnf); refine valloc (.agg #[.string ⟨#[]⟩]) [.string ⟨#[]⟩] rfl rfl ?_
    intro q4 G4 hq4 hs4 hb4 ha4
    have st4 := st3.left.box hq4 hs4 hb4 ha4
    (conv => whnf); refine stNB2 (cs := [.string (dataM x.files name)]) st4 ps2.length rfl (getR _ _ _) (by simp) rfl fun G5 st5 ga5 gs5 => ?_
    rw [setR_] at st5
    have hb5 : Blk G5 q4 78 [.string (dataM x.files name)] := st5.blk _ (getR _ _ _)
    (conv => whnf); refine pures (good_p hnm) fun G6 ga6 => ?_
    have st6 := st5.call ga6
    have hb6 := hb5.agr ga6 hb5.lt
    have sen6 : SentH G6 b o := sen.agr st6.old
    cases hgd : goodM name with
    | false =>
      have hrd : readM x name = (⟨#[]⟩, 4) := by unfold readM; rw [if_pos hgd]
      rw [hrd]
      (conv => whnf); refine VDraw.held (Old G6) 6 (sq [0,1,2,5] (.f 3 (sq [4] (.f 6 .e)))) rfl (by kernel_rfl) ?_
      (conv => whnf); refine ld1 (v := sentV b o 4) ct35 (sen6.cellG 4 (by decide) (by decide) rfl) (sen6.ltG 4 (by decide) (by decide) rfl) ?_
      (conv => whnf); refine vbuildS Tryd.underlying85 rfl _ rfl (peL rdT name (b 4) (o 4)) rfl ?_
      (conv => whnf); refine vbox (peL rdT name (b 4) (o 4)) rfl ?_
      intro q9 H9 hq9 hs9 hb9 ha9
      have st9 := st6.box hq9 hs9 hb9 ha9
      refine ⟨ha9.mono fun k hk => by have : k < (G6).size := hk; omega, ?_⟩
      (conv => whnf)
      exact ⟨q9, rfl, hend1 _ _ (st9.sub (List.Sublist.append (List.sublist_append_left _ _) (List.Sublist.refl _)))⟩
    | true =>
      cases hbk : (lookB x.fails false ((x.reads + 1 : Nat) : Int)).isSome with
      | true =>
        have hrd : readM x name = (⟨#[]⟩, 2) := by unfold readM; rw [if_neg (by rw [hgd]; decide), if_pos hbk]
        rw [hrd]
        (conv => whnf); refine VDraw.held (Old G6) 6 (sq [0,1,2,5] (.f 3 (sq [4] (.f 6 .e)))) rfl (by kernel_rfl) ?_
        (conv => whnf); refine ld1 (v := sentV b o 2) ct35 (sen6.cellG 2 (by decide) (by decide) rfl) (sen6.ltG 2 (by decide) (by decide) rfl) ?_
        (conv => whnf); refine vbuildS Tryd.underlying85 rfl _ rfl (peL rdT name (b 2) (o 2)) rfl ?_
        (conv => whnf); refine vbox (peL rdT name (b 2) (o 2)) rfl ?_
        intro q9 H9 hq9 hs9 hb9 ha9
        have st9 := st6.box hq9 hs9 hb9 ha9
        refine ⟨ha9.mono fun k hk => by have : k < (G6).size := hk; omega, ?_⟩
        (conv => whnf)
        exact ⟨q9, rfl, hend1 _ _ (st9.sub (List.Sublist.append (List.sublist_append_left _ _) (List.Sublist.refl _)))⟩
      | false =>
        cases hlk : (lookF x.files name).isSome with
        | false =>
          have hrd : readM x name = (⟨#[]⟩, 1) := by unfold readM; rw [if_neg (by rw [hgd]; decide), if_neg (by rw [hbk]; decide), if_pos hlk]
          rw [hrd]
          (conv => whnf); refine VDraw.held (Old G6) 6 (sq [0,1,2,5] (.f 3 (sq [4] (.f 6 .e)))) rfl (by kernel_rfl) ?_
          (conv => whnf); refine ld1 (v := sentV b o 1) ct35 (sen6.cellG 1 (by decide) (by decide) rfl) (sen6.ltG 1 (by decide) (by decide) rfl) ?_
          (conv => whnf); refine vbuildS Tryd.underlying85 rfl _ rfl (peL rdT name (b 1) (o 1)) rfl ?_
          (conv => whnf); refine vbox (peL rdT name (b 1) (o 1)) rfl ?_
          intro q9 H9 hq9 hs9 hb9 ha9
          have st9 := st6.box hq9 hs9 hb9 ha9
          refine ⟨ha9.mono fun k hk => by have : k < (G6).size := hk; omega, ?_⟩
          (conv => whnf)
          exact ⟨q9, rfl, hend1 _ _ (st9.sub (List.Sublist.append (List.sublist_append_left _ _) (List.Sublist.refl _)))⟩
        | true =>
          have hrd : readM x name = (dataM x.files name, 0) := by unfold readM; rw [if_neg (by rw [hgd]; decide), if_neg (by rw [hbk]; decide), if_neg (by rw [hlk]; decide)]
          rw [hrd]
          (conv => whnf); refine VC.fa fl78_0 ?_
          (conv => whnf); refine ld1 (v := .string (dataM x.files name)) ct9 (by rw [hb6.cell]; rfl) trivial ?_
          (conv => whnf)
          exact ⟨0, rfl, hend1 _ [] (st6.left.sub (by simp))⟩
end Go.Proofs.YtfdlhakfmbdamaaDoor
