/- The document's Read, Write; same, copied: the walks. -/
import Derived.Test.YtfdlhakfmbdamaaDoorPFd5
set_option linter.unusedVariables false
set_option linter.unusedSimpArgs false
set_option maxRecDepth 100000
namespace Go.Proofs.YtfdlhakfmbdamaaDoor
open Go.VC
theorem doc_set2 (fa : Option Addr) (fc : Nat) (ba : Option Addr) (bc : Nat) (x : Fs) (n : Nat) : (docC fa fc ba bc x).set (0 + 2) (.int .i64 ((n : Nat) : Int)) = docC fa fc ba bc { x with reads := n } := rfl
theorem doc_set3 (fa : Option Addr) (fc : Nat) (ba : Option Addr) (bc : Nat) (x : Fs) (n : Nat) : (docC fa fc ba bc x).set (0 + 3) (.int .i64 ((n : Nat) : Int)) = docC fa fc ba bc { x with writes := n } := rfl
set_option maxHeartbeats 8000000 in
theorem dread_p {B : Nat → Prop} {H0 H : Heap} {ps : List Pc} {j sd fc bc : Nat} {fa ba : Option Addr} {x : Fs} {name : ByteArray} (st : StB B H0 H ps) (sy : DocAt ps j sd fa fc ba bc x) (hx : x.reads < 4611686018427387904) (hr : Rise x.files) (hnm : name.size ≤ maxLen) :
    FnOk Tryd.prog 11 #[.pointer (some ⟨sd, 0, none⟩), .string name] H fun v H' => v = .tuple #[.string (readM x name).1, .int .i64 ((readM x name).2 : Int)] ∧ StB B H0 H' (ps.set j (pB 55 sd (docC fa fc ba bc (read1 x)))) := by
  refine FnOk.of_vc Tryd.func11 rfl (Tryd.call11 _) ?_
  (conv => whnf); refine VC.fa fl55_2 ?_
  (conv => whnf); refine ld1 (v := .int .i64 (x.reads : Int)) ct3 (by rw [(st.blk j sy.p0).cell]; rfl) trivial ?_
  (conv => whnf); rw [w64 (x := (x.reads : Int) + 1) (by omega) (by omega)]
  (conv => whnf); refine VC.fa fl55_2 ?_
  (conv => whnf); refine st1B st j ct3 sy.p0 (by simp [docC]) rfl fun H1 st1 => ?_
  have e1 : (docC fa fc ba bc x).set (0 + 2) (.int .i64 ((x.reads : Int) + 1)) = docC fa fc ba bc (read1 x) := by
    rw [show ((x.reads : Int) + 1) = ((x.reads + 1 : Nat) : Int) by omega]; rfl
  rw [e1] at st1
  have sy1 : DocAt (ps.set j (pB 55 sd (docC fa fc ba bc (read1 x)))) j sd fa fc ba bc (read1 x) := ⟨getS sy.p0, getN sy.p1 (by omega), getN sy.p2 (by omega)⟩
  generalize ps.set j (pB 55 sd (docC fa fc ba bc (read1 x))) = ps1 at st1 sy1
  have hb1 := st1.blk j sy1.p0
  (conv => whnf); refine VC.fa fl55_2 ?_
  (conv => whnf); refine ld1 (v := .int .i64 ((x.reads + 1 : Nat) : Int)) ct3 (by rw [hb1.cell]; rfl) trivial ?_
  (conv => whnf); refine pures (dfails_p (fails := x.fails) hb1 rfl (st1.view (j + 2) sy1.p2) (fun k hk => hk)) fun H2 ha2 => ?_
  have st2 := st1.call ha2
  (conv => whnf); refine valloc (breakV (false, 0, 0)) (breakL (false, 0, 0)) rfl rfl ?_
  intro q H3 hq3 hs3 hb3 ha3
  have st3 := st2.box hq3 hs3 hb3 ha3
  (conv => whnf); refine stNB2 (cs := breakL (hitM x.fails false ((x.reads + 1 : Nat) : Int))) st3 ps1.length rfl (getR _ _ _) (by simp [breakL]) (by simp [breakL]; exact ⟨rfl, rfl, rfl⟩) fun H4 st4 ha4 hs4 => ?_
  have st5 : StB B H0 H4 ps1 := by
    rw [setR_] at st4
    exact st4.left
  (conv => whnf); refine pures (find_p (st5.blk j sy1.p0) rfl (st5.view (j + 1) sy1.p1) (fun k hk => hk)) fun H6 ha6 => ?_
  have st6 := st5.call ha6
  (conv => whnf); refine pures (rgood_p hnm) fun H7 ha7 => ?_
  have st7 := st6.call ha7
  have hth := there_look name hr
  have hf1 : (read1 x).files = x.files := rfl
  rw [hf1]
  unfold readM
  cases hg : goodM name with
  | false =>
    (conv => whnf)
    exact ⟨rfl, st7⟩
  | true =>
    rw [if_neg (by decide)]
    cases hl : (lookB x.fails false ((x.reads + 1 : Nat) : Int)).isSome with
    | true =>
      (conv => whnf)
      exact ⟨rfl, st7⟩
    | false =>
      rw [if_neg (by decide)]
      cases ht : thereM x.files name with
      | false =>
        rw [← hth, ht]
        (conv => whnf)
        exact ⟨rfl, st7⟩
      | true =>
        rw [← hth, ht, if_neg (by decide)]
        obtain ⟨p, hp, hpn⟩ : ∃ p, x.files[posM x.files name]? = some p ∧ p.1 = name := by
          unfold thereM at ht
          split at ht
          · rename_i p hp
            exact ⟨p, hp, of_decide_eq_true ht⟩
          · cases ht
        have hdt := data_at hr (List.mem_of_getElem? hp)
        rw [hpn] at hdt
        (conv => whnf); refine VC.fa fl55_0 ?_
        (conv => whnf); refine ld1 (v := .slice fa x.files.length fc) ct52 (by rw [(st7.blk j sy1.p0).cell]; rfl) trivial ?_
        (conv => whnf); refine ixO sl52 st7 (j + 1) sy1.p1 hp rfl ?_
        intro b9 o9 c9 hb9 hc9 hr9
        obtain ⟨rfl, -, -⟩ := file_rep hr9
        (conv => whnf); refine VC.fa fl65_1 ?_
        (conv => whnf); refine ld1 (v := .string p.2) ct9 (hc9 1 _ rfl) trivial ?_
        (conv => whnf)
        exact ⟨by rw [hdt]; rfl, st7⟩
theorem lay_ps {ps : List Pc} {j : Nat} {A A' X X' : Pc} : ((ps.set j A).set j A').set (j + 1) X' = (ps.set j A').set (j + 1) X' := by rw [List.set_set]
set_option maxHeartbeats 8000000 in
theorem dwrite_p {B : Nat → Prop} {H0 H : Heap} {ps : List Pc} {j sd fc bc : Nat} {fa ba : Option Addr} {x : Fs} {name data : ByteArray} (st : StB B H0 H ps) (sy : DocAt ps j sd fa fc ba bc x) (hx : x.writes < 4611686018427387904) (hfs : FsOk x.files) (hnm : name.size ≤ maxLen) (hdm : data.size ≤ maxLen) :
    FnOk Tryd.prog 13 #[.pointer (some ⟨sd, 0, none⟩), .string name, .string data] H fun v H' => v = .int .i64 ((writeM x name data).1 : Int) ∧ ∃ fa' fc', StB B H0 H' ((ps.set j (pB 55 sd (docC fa' fc' ba bc (write1 x name data)))).set (j + 1) (pS tFile 65 fa' (write1 x name data).files.length fc' (write1 x name data).files)) := by
  have hr := hfs.rise
  have hlen := hfs.len
  have hsame : ∀ {A : Pc}, (ps.set j A).set (j + 1) (pS tFile 65 fa x.files.length fc x.files) = ps.set j A := fun {A} => set_same (getN sy.p1 (by omega))
  refine FnOk.of_vc Tryd.func13 rfl (Tryd.call13 _) ?_
  (conv => whnf); refine VC.fa fl55_3 ?_
  (conv => whnf); refine ld1 (v := .int .i64 (x.writes : Int)) ct3 (by rw [(st.blk j sy.p0).cell]; rfl) trivial ?_
  (conv => whnf); rw [w64 (x := (x.writes : Int) + 1) (by omega) (by omega)]
  (conv => whnf); refine VC.fa fl55_3 ?_
  (conv => whnf); refine st1B st j ct3 sy.p0 (by simp [docC]) rfl fun H1 st1 => ?_
  obtain ⟨y, hy⟩ : ∃ y : Fs, y = { x with writes := x.writes + 1 } := ⟨_, rfl⟩
  have hyf : y.files = x.files := by rw [hy]
  have hyb : y.fails = x.fails := by rw [hy]
  have e1 : (docC fa fc ba bc x).set (0 + 3) (.int .i64 ((x.writes : Int) + 1)) = docC fa fc ba bc y := by
    rw [show ((x.writes : Int) + 1) = ((x.writes + 1 : Nat) : Int) by omega, hy]; rfl
  rw [e1] at st1
  have sy1 : DocAt (ps.set j (pB 55 sd (docC fa fc ba bc y))) j sd fa fc ba bc y := by
    refine ⟨getS sy.p0, ?_, ?_⟩
    · rw [hyf]; exact getN sy.p1 (by omega)
    · rw [hyb]; exact getN sy.p2 (by omega)
  have hyw : ∀ {G : Heap} {fa' : Option Addr} {fc' : Nat} {d : ByteArray}, (writeM x name data).2 = layM x.files name d → StB B H0 G (((ps.set j (pB 55 sd (docC fa fc ba bc y))).set j (pB 55 sd (docC fa' fc' ba bc (layF y name d)))).set (j + 1) (pS tFile 65 fa' (layF y name d).files.length fc' (layF y name d).files)) →
      StB B H0 G ((ps.set j (pB 55 sd (docC fa' fc' ba bc (write1 x name data)))).set (j + 1) (pS tFile 65 fa' (write1 x name data).files.length fc' (write1 x name data).files)) := fun {G fa' fc' d} e h => by
    rw [List.set_set] at h
    have e2 : write1 x name data = layF y name d := by unfold write1 layF; rw [e, hy]
    rw [e2]
    exact h
  have hno : ∀ {G : Heap}, (writeM x name data).2 = x.files → StB B H0 G (ps.set j (pB 55 sd (docC fa fc ba bc y))) → ∃ fa' fc', StB B H0 G ((ps.set j (pB 55 sd (docC fa' fc' ba bc (write1 x name data)))).set (j + 1) (pS tFile 65 fa' (write1 x name data).files.length fc' (write1 x name data).files)) := fun {G} e h => by
    refine ⟨fa, fc, ?_⟩
    have e2 : write1 x name data = y := by unfold write1; rw [e, hy]
    rw [e2, hyf, hsame]
    exact h
  generalize hps1 : ps.set j (pB 55 sd (docC fa fc ba bc y)) = ps1 at st1 sy1 hyw hno
  have hb1 := st1.blk j sy1.p0
  (conv => whnf); refine VC.fa fl55_3 ?_
  (conv => whnf); refine ld1 (v := .int .i64 ((x.writes + 1 : Nat) : Int)) ct3 (by rw [hb1.cell, hy]; rfl) trivial ?_
  (conv => whnf); refine pures (dfails_p (fails := y.fails) hb1 rfl (st1.view (j + 2) sy1.p2) (fun k hk => hk)) fun H2 ha2 => ?_
  have st2 := st1.call ha2
  rw [hyb]
  obtain ⟨hit, hhit⟩ : ∃ h, h = hitM x.fails true ((x.writes + 1 : Nat) : Int) := ⟨_, rfl⟩
  rw [← hhit]
  (conv => whnf); refine valloc (breakV (false, 0, 0)) (breakL (false, 0, 0)) rfl rfl ?_
  intro q H3 hq3 hs3 hb3 ha3
  have st3 := st2.box hq3 hs3 hb3 ha3
  (conv => whnf); refine stNB2 (cs := breakL hit) st3 ps1.length rfl (getR _ _ _) (by simp [breakL]) (by simp [breakL]; exact ⟨rfl, rfl, rfl⟩) fun H4 st4 ha4 hs4 => ?_
  rw [setR_, show splice (breakL (false, 0, 0)) 0 (breakL hit) = breakL hit from splAll rfl] at st4
  have hq4 : Blk H4 q 69 (breakL hit) := st4.blk ps1.length (getR _ _ _)
  have st5 : StB B H0 H4 ps1 := st4.left
  (conv => whnf); refine pures (find_p (st5.blk j sy1.p0) rfl (st5.view (j + 1) sy1.p1) (fun k hk => hk)) fun H6 ha6 => ?_
  have st6 := st5.call ha6
  (conv => whnf); refine pures (rgood_p hnm) fun H7 ha7 => ?_
  have st7 := st6.call ha7
  have hq7 : Blk H7 q 69 (breakL hit) := (hq4.agr ha6 hq4.lt).agr ha7 (old_lt ha6 hq4.lt)
  have hth := there_look name hr
  rw [hyf]
  have hl0 : VC.cell H7 sd (0 + 0) = some (.slice fa x.files.length fc) := by rw [(st7.blk j sy1.p0).cell, ← hyf]; rfl
  cases hg : goodM name with
  | false =>
    have W : writeM x name data = (4, x.files) := by unfold writeM; rw [if_pos hg]
    (conv => whnf)
    exact ⟨by rw [W]; rfl, hno (by rw [W]) st7⟩
  | true =>
    have hg2 : ¬ goodM name = false := by rw [hg]; decide
    cases ht : thereM x.files name with
    | true =>
      have hrm : roomM x.files name = true := by unfold roomM; rw [← hth, ht]; rfl
      have hrm2 : ¬ roomM x.files name = false := by rw [hrm]; decide
      have hlen1 : y.files.length ≤ 65536 := by rw [hyf]; omega
      unfold hitM at hhit
      cases hlk : lookB x.fails true ((x.writes + 1 : Nat) : Int) with
      | none =>
        have W : writeM x name data = (0, layM x.files name data) := by unfold writeM; rw [if_neg hg2, if_neg hrm2, hlk]
        (conv => whnf); refine VCall.mk (lay_p st7 sy1 hlen1 hnm hdm) ?_
        rintro _ H8 ⟨fa', fc', st8⟩
        (conv => whnf)
        exact ⟨by rw [W]; rfl, fa', fc', hyw (by rw [W]) st8⟩
      | some f =>
        rw [hlk] at hhit
        have hhit : hit = f := hhit
        subst hhit
        have W0 : writeM x name data = (2, keepM x.files name data hit.2.2) := by unfold writeM; rw [if_neg hg2, if_neg hrm2, hlk]
        (conv => whnf); refine VSeq.run ?_
        (conv => whnf); refine VC.fa fl69_2 ?_
        (conv => whnf); refine ld1 (v := .int .i64 hit.2.2) ct3 (by rw [hq7.cell]; rfl) trivial ?_
        by_cases hk : 0 ≤ hit.2.2
        · have d2 : decide ((0 : Int) ≤ hit.2.2) = true := decide_eq_true hk
          have W : writeM x name data = (2, layM x.files name (data.extract 0 (min hit.2.2.toNat data.size))) := by rw [W0]; unfold keepM; rw [if_pos hk]
          (conv => whnf); rw [d2]
          (conv => whnf); refine VC.fa fl69_2 ?_
          (conv => whnf); refine ld1 (v := .int .i64 hit.2.2) ct3 (by rw [hq7.cell]; rfl) trivial ?_
          (conv => whnf); refine vminB ?_
          have hmin : (if (data.size : Int) < hit.2.2 then (data.size : Int) else hit.2.2) = ((min hit.2.2.toNat data.size : Nat) : Int) := by split <;> omega
          rw [hmin]
          (conv => whnf); refine vcutSH Tryd.underlying9 (by omega) (by omega) ?_
          rw [Int.toNat_natCast]
          (conv => whnf); refine VCall.mk (lay_p st7 sy1 hlen1 hnm (by simp only [ByteArray.size_extract]; omega)) ?_
          rintro _ H8 ⟨fa', fc', st8⟩
          (conv => whnf)
          exact ⟨by rw [W]; rfl, fa', fc', hyw (by rw [W]) st8⟩
        · have d2 : decide ((0 : Int) ≤ hit.2.2) = false := decide_eq_false hk
          have W : writeM x name data = (2, x.files) := by rw [W0]; unfold keepM; rw [if_neg hk]
          (conv => whnf); rw [d2]
          (conv => whnf)
          exact ⟨by rw [W]; rfl, hno (by rw [W]) st7⟩
    | false =>
      (conv => whnf); refine VC.fa fl55_0 ?_
      (conv => whnf); refine ld1 (v := .slice fa x.files.length fc) ct52 hl0 trivial ?_
      by_cases hl : x.files.length < 64
      · have hrm : roomM x.files name = true := by unfold roomM; rw [decide_eq_true hl, Bool.or_true]
        have d1 : decide ((64 : Int) ≤ (x.files.length : Int)) = false := decide_eq_false (by omega)
        (conv => whnf); rw [d1]
        have hrm2 : ¬ roomM x.files name = false := by rw [hrm]; decide
        have hlen1 : y.files.length ≤ 65536 := by rw [hyf]; omega
        unfold hitM at hhit
        cases hlk : lookB x.fails true ((x.writes + 1 : Nat) : Int) with
        | none =>
          have W : writeM x name data = (0, layM x.files name data) := by unfold writeM; rw [if_neg hg2, if_neg hrm2, hlk]
          (conv => whnf); refine VCall.mk (lay_p st7 sy1 hlen1 hnm hdm) ?_
          rintro _ H8 ⟨fa', fc', st8⟩
          (conv => whnf)
          exact ⟨by rw [W]; rfl, fa', fc', hyw (by rw [W]) st8⟩
        | some f =>
          rw [hlk] at hhit
          have hhit : hit = f := hhit
          subst hhit
          have W0 : writeM x name data = (2, keepM x.files name data hit.2.2) := by unfold writeM; rw [if_neg hg2, if_neg hrm2, hlk]
          (conv => whnf); refine VSeq.run ?_
          (conv => whnf); refine VC.fa fl69_2 ?_
          (conv => whnf); refine ld1 (v := .int .i64 hit.2.2) ct3 (by rw [hq7.cell]; rfl) trivial ?_
          by_cases hk : 0 ≤ hit.2.2
          · have d2 : decide ((0 : Int) ≤ hit.2.2) = true := decide_eq_true hk
            have W : writeM x name data = (2, layM x.files name (data.extract 0 (min hit.2.2.toNat data.size))) := by rw [W0]; unfold keepM; rw [if_pos hk]
            (conv => whnf); rw [d2]
            (conv => whnf); refine VC.fa fl69_2 ?_
            (conv => whnf); refine ld1 (v := .int .i64 hit.2.2) ct3 (by rw [hq7.cell]; rfl) trivial ?_
            (conv => whnf); refine vminB ?_
            have hmin : (if (data.size : Int) < hit.2.2 then (data.size : Int) else hit.2.2) = ((min hit.2.2.toNat data.size : Nat) : Int) := by split <;> omega
            rw [hmin]
            (conv => whnf); refine vcutSH Tryd.underlying9 (by omega) (by omega) ?_
            rw [Int.toNat_natCast]
            (conv => whnf); refine VCall.mk (lay_p st7 sy1 hlen1 hnm (by simp only [ByteArray.size_extract]; omega)) ?_
            rintro _ H8 ⟨fa', fc', st8⟩
            (conv => whnf)
            exact ⟨by rw [W]; rfl, fa', fc', hyw (by rw [W]) st8⟩
          · have d2 : decide ((0 : Int) ≤ hit.2.2) = false := decide_eq_false hk
            have W : writeM x name data = (2, x.files) := by rw [W0]; unfold keepM; rw [if_neg hk]
            (conv => whnf); rw [d2]
            (conv => whnf)
            exact ⟨by rw [W]; rfl, hno (by rw [W]) st7⟩
      · have hrm : roomM x.files name = false := by unfold roomM; rw [← hth, ht, decide_eq_false hl]; rfl
        have d1 : decide ((64 : Int) ≤ (x.files.length : Int)) = true := decide_eq_true (by omega)
        have W : writeM x name data = (3, x.files) := by unfold writeM; rw [if_neg hg2, if_pos hrm]
        (conv => whnf); rw [d1]
        (conv => whnf)
        exact ⟨by rw [W]; rfl, hno (by rw [W]) st7⟩
set_option maxHeartbeats 8000000 in
theorem same_p {S : Nat → Prop} {H : Heap} {a a' : Option Addr} {c c' : Nat} {l : List (ByteArray × ByteArray)} (hv : SlD tFile S H a c l) (hw : SlD tFile S H a' c' l) (hS : ∀ k, S k → k < H.size) :
    Pure Tryd.prog 14 #[.slice a l.length c, .slice a' l.length c'] H (.bool true) := by
  have hlen := hv.le
  unfold maxLen at hlen
  refine FnOk.of_vc Tryd.func14 rfl (Tryd.call14 _) ?_
  have d0 : ((l.length : Int) != (l.length : Int)) = false := by simp
  (conv => whnf); rw [d0]
  (conv => whnf)
  refine VLoop.mk [5] (fun k : Nat => [.int .i64 (k : Int)]) (fun k G => k ≤ l.length ∧ Agr (Old H) H G) (fun k _ => l.length - k) ?_ ?_
  · (conv => whnf)
    exact ⟨0, rfl, Nat.zero_le _, Agr.refl _ _⟩
  · rintro k G junk ⟨hk, hag⟩
    have hvG := hv.frame (hag.mono hS)
    have hwG := hw.frame (hag.mono hS)
    have hSG : ∀ q, S q → q < G.size := fun q hq => old_lt hag (hS q hq)
    (conv => whnf); refine VIte.mk (fun hz => ?_) (fun hz => ?_) <;> simp only [decide_eq_true_eq, decide_eq_false_iff_not] at hz
    · have hkl : k < l.length := by omega
      obtain ⟨p, hp⟩ : ∃ p, l[k]? = some p := ⟨l[k], List.getElem?_eq_getElem hkl⟩
      (conv => whnf); refine VDraw.quiet (Old G) rfl (by kernel_rfl) ?_
      (conv => whnf); refine ixr sl31 hvG hp rfl ?_
      intro b1 o1 c1 hb1 hc1 hr1
      obtain ⟨rfl, -, -⟩ := file_rep hr1
      (conv => whnf); refine VC.fa fl33_0 ?_
      (conv => whnf); refine ld1 (v := .string p.1) ct9 (hc1 0 _ rfl) (hSG _ hb1) ?_
      (conv => whnf); refine ixr sl52 hwG hp rfl ?_
      intro b2 o2 c2 hb2 hc2 hr2
      obtain ⟨rfl, -, -⟩ := file_rep hr2
      (conv => whnf); refine VC.fa fl65_0 ?_
      (conv => whnf); refine ld1 (v := .string p.1) ct9 (hc2 0 _ rfl) (hSG _ hb2) ?_
      (conv => whnf); rw [txt_dec, decide_eq_true rfl]
      (conv => whnf); refine ixr sl31 hvG hp rfl ?_
      intro b3 o3 c3 hb3 hc3 hr3
      obtain ⟨rfl, -, -⟩ := file_rep hr3
      (conv => whnf); refine VC.fa fl33_1 ?_
      (conv => whnf); refine ld1 (v := .string p.2) ct9 (hc3 1 _ rfl) (hSG _ hb3) ?_
      (conv => whnf); refine ixr sl52 hwG hp rfl ?_
      intro b4 o4 c4 hb4 hc4 hr4
      obtain ⟨rfl, -, -⟩ := file_rep hr4
      (conv => whnf); refine VC.fa fl65_1 ?_
      (conv => whnf); refine ld1 (v := .string p.2) ct9 (hc4 1 _ rfl) (hSG _ hb4) ?_
      (conv => whnf); rw [txt_dec, decide_eq_true rfl]
      (conv => whnf)
      intro G2 hg2
      (conv => whnf); rw [w64 (x := (k : Int) + 1) (by omega) (by omega)]
      exact ⟨rfl, k + 1, rfl, ⟨by omega, hag.trans (hg2.mono fun q hq => old_lt hag hq)⟩, by omega⟩
    · (conv => whnf)
      exact ⟨rfl, hag⟩
theorem copied_p {B : Nat → Prop} {H0 H : Heap} {ps : List Pc} {i n c : Nat} {a : Option Addr} {l : List (ByteArray × ByteArray)} (st : StB B H0 H ps) (hp : ps[i]? = some (pS tFile 65 a n c l)) (hlen : l.length ≤ 1048576) :
    FnOk Tryd.prog 15 #[.slice a n c] H fun v H' => ∃ a' c', v = .slice a' l.length c' ∧ StB B H0 H' (ps ++ [pS tFile 65 a' l.length c' l]) := by
  have hn := st.len i hp
  refine FnOk.of_vc Tryd.func15 rfl (Tryd.call15 _) ?_
  (conv => whnf); refine vbuild0 sl52 ?_
  intro q1 H1 hq1 hs1 hb1 ha1
  have st1 := st.skip hq1 ha1
  have st2 : StB B H0 H1 (ps ++ [pS tFile 65 (some ⟨q1, 0, none⟩) 0 0 []]) := st.add (ha1.mono fun k hk => by have : k < H.size := hk; omega) _ ⟨SlO.empty (Nat.zero_le _) hb1, fun k hk => hk.elim⟩ fun k hk => by
    rcases hk with ⟨o, n, c, e⟩ | hk
    · cases e
      omega
    · exact hk.elim
  (conv => whnf); refine appD2 file_free file_ones st2 ps.length sl52 (getR _ _ _) hn (st2.view i (getL hp)) (by simp; omega) (by decide) fun a' c' H2 st3 ag3 => ?_
  rw [setR_, List.nil_append] at st3
  rw [List.nil_append]
  (conv => whnf)
  exact ⟨a', c', rfl, st3⟩
end Go.Proofs.YtfdlhakfmbdamaaDoor
