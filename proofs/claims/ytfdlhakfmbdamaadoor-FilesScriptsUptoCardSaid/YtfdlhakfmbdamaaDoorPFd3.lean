/- The document's New: the walk. -/
import Derived.Test.YtfdlhakfmbdamaaDoorPFd2
set_option linter.unusedVariables false
set_option linter.unusedSimpArgs false
set_option maxRecDepth 100000
namespace Go.Proofs.YtfdlhakfmbdamaaDoor
open Go.VC
def docL (sd : Nat) (fa : Option Addr) (fc : Nat) (ba : Option Addr) (bc : Nat) (x : Fs) : List Pc := [pB 55 sd (docC fa fc ba bc x), pS tFile 65 fa x.files.length fc x.files, pS tBrk 69 ba x.fails.length bc x.fails]
theorem doc_at (ps : List Pc) (sd : Nat) (fa : Option Addr) (fc : Nat) (ba : Option Addr) (bc : Nat) (x : Fs) : DocAt (ps ++ docL sd fa fc ba bc x) ps.length sd fa fc ba bc x := ⟨g4 ps _ 0, g4 ps _ 1, g4 ps _ 2⟩
theorem good_len {n : ByteArray} (h : goodM n = true) : n.size ≤ 32 := by
  unfold goodM at h
  simp only [Bool.and_eq_true, decide_eq_true_eq] at h
  omega
theorem FsOk.lay {l : List (ByteArray × ByteArray)} (h : FsOk l) {n d : ByteArray} (hn : n.size ≤ 32) (hd : d.size ≤ maxLen) (hr : roomM l n = true) : FsOk (layM l n d) := by
  refine ⟨h.rise.lay n d, ?_, fun p hp => ?_, fun p hp => ?_⟩
  · have hlk := there_look n h.rise
    unfold roomM at hr
    rw [← hlk] at hr
    cases ht : thereM l n with
    | true => rw [lay_there ht, List.length_set]; exact h.len
    | false =>
      rw [ht, Bool.false_or, decide_eq_true_eq] at hr
      have := lay_len l n d
      omega
  · rcases lay_mem hp with rfl | hp
    · exact hn
    · exact h.name p hp
  · rcases lay_mem hp with rfl | hp
    · exact hd
    · exact h.data p hp
theorem FsOk.add {l : List (ByteArray × ByteArray)} (h : FsOk l) {f : ByteArray × ByteArray} (hd : f.2.size ≤ maxLen) : FsOk (addM l f) := by
  unfold addM
  split
  · rename_i hc
    rw [Bool.and_eq_true] at hc
    exact h.lay (good_len hc.1) hd hc.2
  · exact h
theorem layAll_fs {l : List (ByteArray × ByteArray)} (h : ∀ p ∈ l, p.2.size ≤ maxLen) : FsOk (layAll l) := by
  unfold layAll
  have key : ∀ (l acc : List (ByteArray × ByteArray)), FsOk acc → (∀ p ∈ l, p.2.size ≤ maxLen) → FsOk (l.foldl addM acc) := fun l => by
    induction l with
    | nil => intro acc h _; exact h
    | cons f r ih => intro acc h h2; exact ih _ (h.add (h2 f (by simp))) fun p hp => h2 p (List.mem_cons_of_mem _ hp)
  exact key l [] ⟨List.Pairwise.nil, by simp, (fun p hp => by cases hp), fun p hp => by cases hp⟩ h
set_option maxHeartbeats 8000000 in
theorem rnew_p {B : Nat → Prop} {H0 H : Heap} {ps : List Pc} {i1 i2 n1 n2 cap1 cap2 : Nat} {a1 a2 : Option Addr} {files : List (ByteArray × ByteArray)} {fails : List (Bool × Int × Int)} (st : StB B H0 H ps) (hf : ps[i1]? = some (pS tFile 65 a1 n1 cap1 files)) (hb : ps[i2]? = some (pS tBrk 69 a2 n2 cap2 fails)) (hsm : fails.length ≤ 1048576) :
    FnOk Tryd.prog 19 #[.slice a1 n1 cap1, .slice a2 n2 cap2] H fun v H' => ∃ sd fa fc ba bc, v = .pointer (some ⟨sd, 0, none⟩) ∧ StB B H0 H' (ps ++ docL sd fa fc ba bc (newM files fails)) := by
  have hn1 := st.len i1 hf
  have hn2 := st.len i2 hb
  have hm1 := st.max i1 hf
  unfold maxLen at hm1
  have hfd : ∀ p ∈ files, p.1.size ≤ maxLen ∧ p.2.size ≤ maxLen := fun p hp => by
    obtain ⟨k, hk⟩ := List.getElem?_of_mem hp
    obtain ⟨b, o, c, -, -, -, h3⟩ := (st.view i1 hf).get hk
    exact (file_rep h3).2
  refine FnOk.of_vc Tryd.func19 rfl (Tryd.call19 _) ?_
  (conv => whnf); refine vbuild0 sl53 ?_
  intro q1 H1 hq1 hs1 hb1 ha1
  have st1 := st.skip hq1 ha1
  have st2 : StB B H0 H1 (ps ++ [pS tBrk 69 (some ⟨q1, 0, none⟩) 0 0 []]) := st.add (ha1.mono fun k hk => by have : k < H.size := hk; omega) _ ⟨SlO.empty (Nat.zero_le _) hb1, fun k hk => hk.elim⟩ fun k hk => by
    rcases hk with ⟨o, n, c, e⟩ | hk
    · cases e
      omega
    · exact hk.elim
  (conv => whnf); refine appD2 brk_free brk_ones st2 ps.length sl53 (getR _ _ _) hn2 (st2.view i2 (getL hb)) (by simp; omega) (by decide) fun ba bc H2 st3 ag3 => ?_
  rw [setR_, List.nil_append] at st3
  rw [List.nil_append]
  (conv => whnf); refine vbuildS Tryd.underlying55 rfl _ rfl (docC none 0 ba bc (newM [] fails)) rfl ?_
  (conv => whnf); refine vbox (docC none 0 ba bc (newM [] fails)) rfl ?_
  intro sd H3 hq3 hs3 hb3 ha3
  have st4 := (st3.box hq3 hs3 hb3 ha3).nils tFile 65
  rw [List.append_assoc, List.append_assoc] at st4
  have st5 : StB B H0 H3 (ps ++ docL sd none 0 ba bc (newM [] fails)) := st4.perm (List.Perm.append_left ps (by
    show ([pS tBrk _ ba fails.length bc fails, pB _ sd (docC none 0 ba bc (newM [] fails)), pS tFile _ none 0 0 []] : List Pc).Perm [pB _ sd (docC none 0 ba bc (newM [] fails)), pS tFile _ none 0 0 [], pS tBrk _ ba fails.length bc fails]
    exact (List.perm_append_singleton _ [pB _ sd (docC none 0 ba bc (newM [] fails)), pS tFile _ none 0 0 []]).symm))
  (conv => whnf)
  refine VLoop.mk [6] (fun k : Nat => [.int .i64 (k : Int)]) (fun k G => k ≤ files.length ∧ ∃ fa fc, StB B H0 G (ps ++ docL sd fa fc ba bc (newM (files.take k) fails))) (fun k _ => files.length - k) ?_ ?_
  · (conv => whnf)
    exact ⟨0, rfl, Nat.zero_le _, none, 0, st5⟩
  · rintro k G junk ⟨hk, fa, fc, stg⟩
    have sy := doc_at ps sd fa fc ba bc (newM (files.take k) fails)
    have hok := layAll_fs (l := files.take k) fun p hp => (hfd p (List.mem_of_mem_take hp)).2
    (conv => whnf); refine VIte.mk (fun hz => ?_) (fun hz => ?_) <;> simp only [decide_eq_true_eq, decide_eq_false_iff_not] at hz
    · have hkl : k < files.length := by omega
      obtain ⟨f, hfk⟩ : ∃ f, files[k]? = some f := ⟨files[k], List.getElem?_eq_getElem hkl⟩
      have htk : files.take (k + 1) = files.take k ++ [f] := by rw [List.take_add_one, hfk]; rfl
      obtain ⟨hz1, hz2⟩ := hfd f (List.mem_of_getElem? hfk)
      have hadd : layAll (files.take (k + 1)) = addM (layAll (files.take k)) f := by rw [htk, layAll_snoc]
      have hlk := there_look f.1 hok.rise
      (conv => whnf); refine VSeq.run ?_
      (conv => whnf); refine ixO sl52 stg i1 (getL hf) hfk rfl ?_
      intro b1 o1 c1 hbb1 hcc1 hrr1
      obtain ⟨rfl, -, -⟩ := file_rep hrr1
      (conv => whnf); refine VC.fa fl65_0 ?_
      (conv => whnf); refine ld1 (v := .string f.1) ct9 (hcc1 0 _ rfl) trivial ?_
      (conv => whnf); refine pures (find_p (stg.blk _ sy.p0) rfl (stg.view _ sy.p1) (fun k hk => hk)) fun G2 ga2 => ?_
      have stg2 := stg.call ga2
      (conv => whnf); refine ixO sl52 stg2 i1 (getL hf) hfk rfl ?_
      intro b2 o2 c2 hbb2 hcc2 hrr2
      obtain ⟨rfl, -, -⟩ := file_rep hrr2
      (conv => whnf); refine VC.fa fl65_0 ?_
      (conv => whnf); refine ld1 (v := .string f.1) ct9 (hcc2 0 _ rfl) trivial ?_
      (conv => whnf); refine pures (rgood_p hz1) fun G3 ga3 => ?_
      have stg3 := stg2.call ga3
      cases hgd : goodM f.1 with
      | false =>
        have hsame : layAll (files.take (k + 1)) = layAll (files.take k) := by rw [hadd]; unfold addM; rw [hgd]; rfl
        (conv => whnf); rw [w64 (x := (k : Int) + 1) (by omega) (by omega)]
        refine ⟨rfl, k + 1, rfl, ⟨by omega, fa, fc, ?_⟩, by omega⟩
        show StB B H0 G3 (ps ++ docL sd fa fc ba bc ⟨layAll (files.take (k + 1)), fails, 0, 0⟩)
        rw [hsame]; exact stg3
      | true =>
        have hgo : ∀ {G4 : Heap}, StB B H0 G4 (ps ++ docL sd fa fc ba bc (newM (files.take k) fails)) → roomM (layAll (files.take k)) f.1 = true → ∃ fa' fc', True := fun _ _ => ⟨fa, fc, trivial⟩
        cases hth : thereM (layAll (files.take k)) f.1 with
        | true =>
          have hrm : roomM (layAll (files.take k)) f.1 = true := by unfold roomM; rw [← hlk, hth]; rfl
          have hnew : layAll (files.take (k + 1)) = layM (layAll (files.take k)) f.1 f.2 := by rw [hadd]; unfold addM; rw [hgd, hrm]; rfl
          have e1 : thereM (newM (files.take k) fails).files f.1 = true := hth
          rw [e1]
          (conv => whnf); refine VDraw.heldZ (Old G3) [11] (sq [0,1,2,3,4,5,6,7,8,9,10] (.f 11 .e)) rfl (by kernel_rfl) ?_
          (conv => whnf); refine ixO sl52 stg3 i1 (getL hf) hfk rfl ?_
          intro b3 o3 c3 hbb3 hcc3 hrr3
          obtain ⟨rfl, -, -⟩ := file_rep hrr3
          (conv => whnf); refine VC.fa fl65_0 ?_
          (conv => whnf); refine ld1 (v := .string f.1) ct9 (hcc3 0 _ rfl) hbb3 ?_
          (conv => whnf); refine ixO sl52 stg3 i1 (getL hf) hfk rfl ?_
          intro b4 o4 c4 hbb4 hcc4 hrr4
          obtain ⟨rfl, -, -⟩ := file_rep hrr4
          (conv => whnf); refine VC.fa fl65_1 ?_
          (conv => whnf); refine ld1 (v := .string f.2) ct9 (hcc4 1 _ rfl) hbb4 ?_
          (conv => whnf); refine VCall.mk (lay_p stg3 sy (by have := hok.len; show (layAll (files.take k)).length ≤ _; omega) hz1 hz2) ?_
          rintro _ G5 ⟨fa', fc', stg5⟩
          (conv => whnf); rw [w64 (x := (k : Int) + 1) (by omega) (by omega)]
          refine ⟨rfl, k + 1, rfl, ⟨by omega, fa', fc', ?_⟩, by omega⟩
          have e0 : ∀ q r : Pc, ((ps ++ docL sd fa fc ba bc (newM (files.take k) fails)).set ps.length q).set (ps.length + 1) r = ps ++ [q, r, pS tBrk 69 ba fails.length bc fails] := fun q r => by
            have h1 := s4 ps (docL sd fa fc ba bc (newM (files.take k) fails)) 0 q
            rw [Nat.add_zero] at h1
            rw [h1, s4]; rfl
          rw [e0] at stg5
          show StB B H0 G5 (ps ++ docL sd fa' fc' ba bc ⟨layAll (files.take (k + 1)), fails, 0, 0⟩)
          rw [hnew]
          exact stg5
        | false =>
          have e1 : thereM (newM (files.take k) fails).files f.1 = false := hth
          rw [e1]
          (conv => whnf); refine VC.fa fl55_0 ?_
          (conv => whnf); refine ld1 ct52 (v := .slice fa (layAll (files.take k)).length fc) (by rw [(stg3.blk _ sy.p0).cell]; rfl) trivial ?_
          by_cases hl : (layAll (files.take k)).length < 64
          · have d2 : decide (((layAll (files.take k)).length : Int) < 64) = true := decide_eq_true (by omega)
            have hrm : roomM (layAll (files.take k)) f.1 = true := by unfold roomM; rw [decide_eq_true hl, Bool.or_true]
            have hnew : layAll (files.take (k + 1)) = layM (layAll (files.take k)) f.1 f.2 := by rw [hadd]; unfold addM; rw [hgd, hrm]; rfl
            (conv => whnf); rw [d2]
            (conv => whnf); refine VDraw.heldZ (Old G3) [11] (sq [0,1,2,3,4,5,6,7,8,9,10] (.f 11 .e)) rfl (by kernel_rfl) ?_
            (conv => whnf); refine ixO sl52 stg3 i1 (getL hf) hfk rfl ?_
            intro b3 o3 c3 hbb3 hcc3 hrr3
            obtain ⟨rfl, -, -⟩ := file_rep hrr3
            (conv => whnf); refine VC.fa fl65_0 ?_
            (conv => whnf); refine ld1 (v := .string f.1) ct9 (hcc3 0 _ rfl) hbb3 ?_
            (conv => whnf); refine ixO sl52 stg3 i1 (getL hf) hfk rfl ?_
            intro b4 o4 c4 hbb4 hcc4 hrr4
            obtain ⟨rfl, -, -⟩ := file_rep hrr4
            (conv => whnf); refine VC.fa fl65_1 ?_
            (conv => whnf); refine ld1 (v := .string f.2) ct9 (hcc4 1 _ rfl) hbb4 ?_
            (conv => whnf); refine VCall.mk (lay_p stg3 sy (by have := hok.len; show (layAll (files.take k)).length ≤ _; omega) hz1 hz2) ?_
            rintro _ G5 ⟨fa', fc', stg5⟩
            (conv => whnf); rw [w64 (x := (k : Int) + 1) (by omega) (by omega)]
            refine ⟨rfl, k + 1, rfl, ⟨by omega, fa', fc', ?_⟩, by omega⟩
            have e0 : ∀ q r : Pc, ((ps ++ docL sd fa fc ba bc (newM (files.take k) fails)).set ps.length q).set (ps.length + 1) r = ps ++ [q, r, pS tBrk 69 ba fails.length bc fails] := fun q r => by
              have h1 := s4 ps (docL sd fa fc ba bc (newM (files.take k) fails)) 0 q
              rw [Nat.add_zero] at h1
              rw [h1, s4]; rfl
            rw [e0] at stg5
            show StB B H0 G5 (ps ++ docL sd fa' fc' ba bc ⟨layAll (files.take (k + 1)), fails, 0, 0⟩)
            rw [hnew]
            exact stg5
          · have d2 : decide (((layAll (files.take k)).length : Int) < 64) = false := decide_eq_false (by omega)
            have hrm : roomM (layAll (files.take k)) f.1 = false := by unfold roomM; rw [← hlk, hth, decide_eq_false hl]; rfl
            have hsame : layAll (files.take (k + 1)) = layAll (files.take k) := by rw [hadd]; unfold addM; rw [hgd, hrm]; rfl
            (conv => whnf); rw [d2]
            (conv => whnf); rw [w64 (x := (k : Int) + 1) (by omega) (by omega)]
            refine ⟨rfl, k + 1, rfl, ⟨by omega, fa, fc, ?_⟩, by omega⟩
            show StB B H0 G3 (ps ++ docL sd fa fc ba bc ⟨layAll (files.take (k + 1)), fails, 0, 0⟩)
            rw [hsame]; exact stg3
    · obtain rfl : k = files.length := by omega
      rw [List.take_length] at stg
      (conv => whnf)
      exact ⟨sd, fa, fc, ba, bc, rfl, stg⟩
end Go.Proofs.YtfdlhakfmbdamaaDoor
