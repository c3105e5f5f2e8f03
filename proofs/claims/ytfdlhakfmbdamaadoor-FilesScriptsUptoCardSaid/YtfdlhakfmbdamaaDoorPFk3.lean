/- The law FilesScripts: the walk. (printed by mkfk3.py) -/
import Derived.Test.YtfdlhakfmbdamaaDoorPFd6
import Derived.Test.YtfdlhakfmbdamaaDoorVHeldG
set_option linter.unusedVariables false
set_option linter.unusedSimpArgs false
set_option maxRecDepth 100000
namespace Go.VC
section
variable {α : Type} {T : Ty α} {e e2 : TypeId} {a ra : Option Addr} {n cap rn rc : Nat} {xs : List (List α)} {row : List α} {B S : Nat → Prop} {H0 H : Heap} {ps rest : List Pc}
/-- A row joins the data of a list of rows. -/
theorem StB.absorb (st : StB B H0 H (pN (tSl T) S e a n cap xs :: pS T e2 ra rn rc row :: rest)) : StB B H0 H (pN (tSl T) (fun k => S k ∨ slB (.slice ra rn rc) k) e a n cap xs :: rest) := by
  have hap := st.apart2 (i := 0) (j := 1) rfl rfl (by decide)
  have h0 := st.at_ 0 rfl
  refine (st.join 0 1 rfl rfl (by decide)).say 0 rfl _ ⟨h0.1.mono fun k hk => .inl hk, fun k hk => ?_⟩ fun k hk => ?_
  · rcases hk with hk | hk
    · exact h0.2 k hk
    · exact fun h => hap k (.inl h) (.inl hk)
  · rcases hk with hk | hk | hk
    · exact .inl (.inl hk)
    · exact .inl (.inr hk)
    · exact .inr (.inl hk)
/-- append of one row whose data lie in S. -/
theorem appNO {P : Program} {t ty q by_ m cap2 : Nat} {z : Value} {ds : List Value} {K : Value → Heap → Prop} (st : StB B H0 H (pN (tSl T) S e a n cap xs :: rest)) (ht : SlT P t e (tSl T).size by_ z)
    (hd : Cells H q 0 ds) (hy : (tSl T).rep S H ds row) (hm : m = 1) (h1 : ∀ u ∈ ds, u.oneCell' = true) (h63 : xs.length + 1 ≤ 34359738368) (hby : by_ ≤ 1024)
    (k : ∀ a' cap' H', StB B H0 H' (pN (tSl T) S e a' (xs.length + 1) cap' (xs ++ [row]) :: rest) → K (.slice a' (xs.length + 1) cap') H') :
    VEff P (Builtin.append_ #[t, t] ty [.slice a n cap, .slice (some ⟨q, 0, none⟩) m cap2].toArray) H K := by
  subst hm
  have h0 := st.at_ 0 rfl
  refine vappendO (T := tSl T) (S := S) (lo := 0) (ys := [row]) ht h0.1 (Nat.zero_le _) (fun k hk => ⟨(st.in_ 0 rfl (.inr hk)).2, h0.2 k hk⟩) hd (Ty.reps_one hy) rfl h1 (by unfold maxLen; simp only [List.length_singleton]; omega) (by have := Nat.mul_le_mul h63 hby; simp only [List.length_singleton]; omega) ?_
  intro v' H' hown hagr hsz hfr
  obtain ⟨a', cap', rfl⟩ := hown.hull
  rw [List.length_append, List.length_singleton] at hown hfr ⊢
  refine k a' cap' H' (st.upd 0 rfl (hagr.mono fun k hk => ⟨hk.1, fun hb => hk.2 (.inl hb)⟩) _ ⟨hown, fun k hk hb => ?_⟩ (fun k hk => ?_) (fun k hk => ?_) hsz)
  · rcases hfr k hb with h | h
    · exact h0.2 k hk h
    · have := (st.in_ 0 rfl (.inr hk)).2
      omega
  · rcases hk with hk | hk
    · rcases hfr k hk with h | h
      · exact .inl (.inl h)
      · exact .inr h
    · exact .inl (.inr hk)
  · rcases hk with hk | hk
    · exact (hown.lt hk).2
    · have := (st.in_ 0 rfl (.inr hk)).2
      omega
end
theorem vremI {P : Program} {t : TypeId} {x y : Operand} {S : Nat → Prop} {H : Heap} {k : IntKind} {a b : Int} {K : Value → Prop} (hb : 0 < b) (hk : K (.int k (a.tmod b))) : VDet P (do eqGuard .rem t x y (.int k a) (.int k b); binOp .rem t (.int k a) (.int k b)) S H K := by
  refine VDet.mk _ (fun w _ => ?_) hk
  have hb0 : ¬ (b = 0) := by omega
  simp only [run_eqGuard_int, binOp, Op.intDiv, Sem.run_bind, Result.andThen_ok, hb0, if_false, Sem.run_pure, ne_eq, not_true_eq_false]
end Go.VC
namespace Go.Proofs.YtfdlhakfmbdamaaDoor
open Go.VC
abbrev Act : Type := Int × ByteArray × ByteArray × Bool
abbrev tAct : Ty Act := tPair (tInt .i64) (tPair tStr (tPair tStr tBool))
def actL (a : Act) : List Value := [.int .i64 a.1, .string a.2.1, .string a.2.2.1, .bool a.2.2.2]
theorem act_rep {S : Nat → Prop} {H : Heap} {c : List Value} {a : Act} (h : tAct.rep S H c a) : c = actL a ∧ inK .i64 a.1 ∧ a.2.1.size ≤ maxLen ∧ a.2.2.1.size ≤ maxLen := by
  obtain ⟨c1, d1, rfl, ⟨rfl, h1⟩, c2, d2, rfl, ⟨rfl, h2⟩, c3, d3, rfl, ⟨rfl, h3⟩, rfl⟩ := h
  exact ⟨rfl, h1, h2, h3⟩
abbrev Fl : Type := List (ByteArray × ByteArray)
/-- One system and its document. -/
structure SyN where
  s : Nat
  fm : Nat
  rm : Nat
  wm : Nat
  sd : Nat
  fa : Option Addr
  fc : Nat
  ba : Option Addr
  bc : Nat
def syP (n : SyN) (x y : Fs) : List Pc := [pM Value.string n.fm (fileV x.files), pB 83 n.s (sysC n.fm n.rm n.wm x.reads x.writes), pM (Value.int .i64) n.rm (failV x.fails false), pM (Value.int .i64) n.wm (failV x.fails true), pB 55 n.sd (docC n.fa n.fc n.ba n.bc y), pS tFile 65 n.fa y.files.length n.fc y.files, pS tBrk 69 n.ba y.fails.length n.bc y.fails]
def keptP (S : Nat → Prop) (a : Option Addr) (c : Nat) (L : List Fl) : Pc := pN (tSl tFile) S 31 a L.length c L
def wantP (S : Nat → Prop) (a : Option Addr) (c : Nat) (L : List Fl) : Pc := pN (tSl tFile) S 52 a L.length c L
def arrL (a b : Nat) : List Value := [.pointer (some ⟨a, 0, none⟩), .pointer (some ⟨b, 0, none⟩)]
def allP (K W : Pc) (p7 p8 : Nat) (n0 n1 : SyN) (x0 y0 x1 y1 : Fs) : List Pc := [K, W, pB 41 p7 (arrL n0.s n1.s), pB 42 p8 (arrL n0.sd n1.sd)] ++ (syP n0 x0 y0 ++ syP n1 x1 y1)
theorem _root_.Go.VC.StB.addAll {B : Nat → Prop} {H0 H1 H2 : Heap} {ps qs : List Pc} (st : StB B H0 H1 ps) (st' : St H1 H2 qs) : StB B H0 H2 (ps ++ qs) := by
  have s := st.call st'.old
  refine ⟨s.old, s.lt0, s.size, fun q hq => ?_, fun q hq k hk => ?_, List.pairwise_append.2 ⟨s.dis, st'.dis, fun p hp q hq => ?_⟩⟩
  · rcases List.mem_append.1 hq with hq | hq
    · exact s.oks q hq
    · exact st'.oks q hq
  · rcases List.mem_append.1 hq with hq | hq
    · exact s.rng q hq k hk
    · have h := st'.rng q hq k hk
      exact ⟨fun hb => h.1 (by have := st.lt0 k hb; have := st.size; show k < H1.size; omega), h.2⟩
  · intro k hk hk'
    exact (st'.rng q hq k hk').1 (st.rng p hp k hk).2
theorem row_rep {B S : Nat → Prop} {H0 H : Heap} {ps : List Pc} {i n c : Nat} {e : TypeId} {a : Option Addr} {l : Fl} (st : StB B H0 H ps) (hp : ps[i]? = some (pS tFile e a n c l)) {H' : Heap} (h : Agr (Old H) H H') : (tSl tFile).rep (fun k => S k ∨ slB (.slice a n c) k) H' [.slice a l.length c] l := by
  obtain ⟨a', c', e', hs, -⟩ := (st.at_ i hp).1.view (S' := slB (.slice a n c)) (fun b hb => hb) (fun _ h => h.elim)
  injection e' with e1 e2 e3
  subst e1; subst e3
  exact ⟨a, c, rfl, (hs.frame (h.mono fun k hk => (st.in_ i hp (.inl hk)).2)).mono fun k hk => .inr hk⟩
theorem cause_c {H0 H : Heap} {ps : List Pc} {b o : Nat → Nat} {op name : ByteArray} {n q : Nat} (sen : SentH H0 b o) (st : St H0 H (ps ++ errPs b o op name n q)) (hop : op.size ≤ 4194304) (hnm : name.size ≤ 4194304) (hn : n ≤ 4) : Pure Tryd.prog 12 #[errV n q, .string op, .string name] H (.int .i64 (n : Int)) := by
  cases n with
  | zero => exact cause_nil
  | succ n => exact lawcause_p (sen.agr st.old) hop hnm (by omega) hn (st.blk _ (getR _ _ _))
theorem read_le (x : Fs) (n : ByteArray) : (readM x n).2 ≤ 4 := by
  unfold readM
  split
  · exact Nat.le_refl 4
  · split
    · exact (by show 2 ≤ 4; omega)
    · split
      · exact (by show 1 ≤ 4; omega)
      · exact Nat.zero_le 4
/-- What the script's loop keeps. -/
def ScrI (H : Heap) (p7 p8 i : Nat) (ka : Option Addr) (kc : Nat) (wa : Option Addr) (wc m : Nat) (G : Heap) : Prop := ∃ (L : List Fl) (SK SW : Nat → Prop) (n0 n1 : SyN) (y0 y1 : Fs), L.length = m ∧ L.length ≤ i ∧ FsOk y0.files ∧ FsOk y1.files ∧ y0.reads + y0.writes ≤ i ∧ y1.reads + y1.writes ≤ i ∧
  St H G (allP (keptP SK ka kc L) (wantP SW wa wc L) p7 p8 n0 n1 y0 y0 y1 y1)
theorem rem3b {a : Int} : -3 < a.tmod 3 ∧ a.tmod 3 < 3 := by
  rcases Int.le_total 0 a with h | h
  · rw [Int.tmod_eq_emod_of_nonneg h]; omega
  · have : a = -(-a) := by omega
    rw [this, Int.neg_tmod, Int.tmod_eq_emod_of_nonneg (by omega)]
    omega
theorem rem3 {a : Int} : 0 ≤ (a.tmod 3 + 3).tmod 3 ∧ (a.tmod 3 + 3).tmod 3 < 3 := by
  have h1 : -3 < a.tmod 3 ∧ a.tmod 3 < 3 := by
    rcases Int.le_total 0 a with h | h
    · rw [Int.tmod_eq_emod_of_nonneg h]; omega
    · have : a = -(-a) := by omega
      rw [this, Int.neg_tmod, Int.tmod_eq_emod_of_nonneg (by omega)]
      omega
  rw [Int.tmod_eq_emod_of_nonneg (by omega)]
  omega
set_option maxHeartbeats 64000000 in
theorem filesScripts_p {S : Nat → Prop} {H : Heap} {ta ba0 sa : Option Addr} {tc bc0 sc : Nat} {things : Fl} {breaks : List (Bool × Int × Int)} {acts : List Act} {b o : Nat → Nat} (hv : SlD tFile S H ta tc things) (hw : SlD tBrk S H ba0 bc0 breaks) (hu : SlD tAct S H sa sc acts) (hS : ∀ k, S k → k < H.size) (hl1 : things.length ≤ 1048576) (hl2 : breaks.length ≤ 1048576) (hl3 : acts.length ≤ 1048576) (hsz : ∀ a ∈ acts, a.2.1.size ≤ 4194304 ∧ a.2.2.1.size ≤ 4194304) (sen : SentH H b o) :
    Pure Tryd.prog 4 #[.slice ta things.length tc, .slice ba0 breaks.length bc0, .slice sa acts.length sc] H (.bool true) := by
  refine FnOk.of_vc Tryd.func4 rfl (Tryd.call4 _) ?_
  (conv => whnf); refine pures (speaks_p sen) fun H1 ha1 => ?_
  have st1 := (St.nil H).call ha1
  (conv => whnf); refine valloc (.agg #[.pointer none, .pointer none]) [.pointer none, .pointer none] rfl (by kernel_rfl) ?_
  intro p7 H2 hq2 hs2 hb2 ha2
  have st2 := st1.box hq2 hs2 hb2 ha2
  (conv => whnf); refine valloc (.agg #[.pointer none, .pointer none]) [.pointer none, .pointer none] rfl (by kernel_rfl) ?_
  intro p8 H3 hq3 hs3 hb3 ha3
  have st3 := st2.box hq3 hs3 hb3 ha3
  have ag3 := st3.old
  have up3 : ∀ k, S k → k < H3.size := fun k hk => old_lt ag3 (hS k hk)
  (conv => whnf); refine VCall.mk (laid_p (hv.frame (ag3.mono hS)) (hw.frame (ag3.mono hS)) up3 hl1 hl2) ?_
  rintro _ H4 ⟨s0, fm0, rm0, wm0, sd0, fa0, fc0, ba0', bc0', rfl, st4'⟩
  have st4 := st3.addAll st4'
  have hx0 : FsOk (newM things breaks).files := layAll_fs fun p hp => by
    obtain ⟨k, hk⟩ := List.getElem?_of_mem hp
    obtain ⟨b, o, c, -, -, -, h3⟩ := hv.get hk
    exact (file_rep h3).2.2
  have hr0 : (newM things breaks).reads = 0 ∧ (newM things breaks).writes = 0 := ⟨rfl, rfl⟩
  generalize newM things breaks = x0 at st4 hx0 hr0
  clear st4'
  (conv => whnf); refine ixa ar41 (by decide) (by decide) ?_
  (conv => whnf); refine st1B st4 0 ct27 rfl (by decide) rfl fun H5 st5 => ?_
  (conv => whnf); refine ixa ar42 (by decide) (by decide) ?_
  (conv => whnf); refine st1B st5 1 ct28 rfl (by decide) rfl fun H6 st6 => ?_
  have ag6 := st6.old
  have up6 : ∀ k, S k → k < H6.size := fun k hk => old_lt ag6 (hS k hk)
  (conv => whnf); refine VCall.mk (laid_p (things := []) (ta := none) (tc := 0) (S := S) ⟨rfl, rfl⟩ (hw.frame (ag6.mono hS)) up6 (Nat.zero_le _) hl2) ?_
  rintro _ H7 ⟨s1, fm1, rm1, wm1, sd1, fa1, fc1, ba1, bc1, rfl, st7'⟩
  have st7 := st6.addAll st7'
  have hx1 : FsOk (newM [] breaks).files := layAll_fs fun p hp => by cases hp
  have hr1 : (newM [] breaks).reads = 0 ∧ (newM [] breaks).writes = 0 := ⟨rfl, rfl⟩
  generalize newM [] breaks = x1 at st7 hx1 hr1
  clear st7' st4 st5 st6
  (conv => whnf); refine ixa ar41 (by decide) (by decide) ?_
  (conv => whnf); refine st1B st7 0 ct27 rfl (by simp) rfl fun H8 st8 => ?_
  (conv => whnf); refine ixa ar42 (by decide) (by decide) ?_
  (conv => whnf); refine st1B st8 1 ct28 rfl (by simp) rfl fun H9 st9 => ?_
  have st10 := (st9.nils (tSl tFile) 31).nils (tSl tFile) 52
  have st11 : St H H9 (allP (keptP none_ none 0 []) (wantP none_ none 0 []) p7 p8 ⟨s0, fm0, rm0, wm0, sd0, fa0, fc0, ba0', bc0'⟩ ⟨s1, fm1, rm1, wm1, sd1, fa1, fc1, ba1, bc1⟩ x0 x0 x1 x1) := st10.pick [16, 17, 0, 1, 2, 3, 4, 5, 6, 7, 8, 9, 10, 11, 12, 13, 14, 15] (by decide)
  clear st1 st2 st3 st7 st8 st9 st10
  (conv => whnf)
  refine VLoop.mk [9, 10, 11] (fun z : Nat × Option Addr × Nat × Option Addr × Nat × Nat => match z with | (i, ka, kc, wa, wc, m) => [.slice ka m kc, .slice wa m wc, .int .i64 (i : Int)]) (fun z G => match z with | (i, ka, kc, wa, wc, m) => i ≤ acts.length ∧ ScrI H p7 p8 i ka kc wa wc m G) (fun z _ => match z with | (i, _) => acts.length - i) ?_ ?_
  · (conv => whnf)
    exact ⟨(0, none, 0, none, 0, 0), rfl, Nat.zero_le _, [], none_, none_, _, _, x0, x1, rfl, Nat.le_refl _, hx0, hx1, by omega, by omega, st11⟩
  · rintro ⟨i, ka, kc, wa, wc, m⟩ G junk ⟨hi, L, SK, SW, n0, n1, y0, y1, hLm, hLi, hy0, hy1, hc0, hc1, stg⟩
    subst hLm
    (conv => whnf); refine VIte.mk (fun hz => ?_) (fun hz => ?_) <;> simp only [decide_eq_true_eq, decide_eq_false_iff_not] at hz
    · have hil : i < acts.length := by omega
      obtain ⟨A, hA⟩ : ∃ A, acts[i]? = some A := ⟨acts[i], List.getElem?_eq_getElem hil⟩
      obtain ⟨hzn, hzd⟩ := hsz A (List.mem_of_getElem? hA)
      have hag := stg.old
      have huG := hu.frame (hag.mono hS)
      (conv => whnf); refine ixr sl40 huG hA rfl ?_
      intro b1 o1 c1 hb1 hcc1 hr1
      obtain ⟨rfl, -, -, -⟩ := act_rep hr1
      (conv => whnf); refine ldN (cs := actL A) ag46 hcc1 trivial ?_
      (conv => whnf); refine valloc (.agg #[.int .i64 0, .string ⟨#[]⟩, .string ⟨#[]⟩, .bool false]) [.int .i64 0, .string ⟨#[]⟩, .string ⟨#[]⟩, .bool false] rfl (by kernel_rfl) ?_
      intro pa G1 hqa hsa hba haa
      have stg1 := stg.box hqa hsa hba haa
      (conv => whnf); refine stNB (cs := actL A) stg1 18 rfl rfl (Nat.le_refl _) rfl fun G2 stg2 => ?_
      rw [show splice [Value.int .i64 0, .string ⟨#[]⟩, .string ⟨#[]⟩, .bool false] 0 (actL A) = actL A from splAll rfl] at stg2
      clear stg stg1 huG
      have hpa := stg2.blk 18 rfl
      (conv => whnf); refine VSeq.run ?_
      (conv => whnf); refine VC.fa fl46_3 ?_
      (conv => whnf); refine ld1 (v := .bool A.2.2.2) ct4 (by rw [hpa.cell]; rfl) trivial ?_
      obtain ⟨second, hsec⟩ : ∃ t, t = A.2.2.2 := ⟨_, rfl⟩
      rw [← hsec]
      cases second with
      | true =>
        (conv => whnf); try (refine VSeq.run ?_)
        (conv => whnf); refine VC.fa fl46_0 ?_
        (conv => whnf); refine ld1 (v := .int .i64 A.1) ct3 (by rw [hpa.cell]; rfl) trivial ?_
        (conv => whnf); refine vremI (by decide) ?_
        have hrb := rem3b (a := A.1)
        have hrc := rem3 (a := A.1)
        (conv => whnf); rw [w64 (x := A.1.tmod 3 + 3) (by omega) (by omega)]
        (conv => whnf); refine vremI (by decide) ?_
        obtain ⟨r, hr⟩ : ∃ r, r = (A.1.tmod 3 + 3).tmod 3 := ⟨_, rfl⟩
        rw [← hr] at hrc ⊢
        have hr3 : r = 0 ∨ r = 1 ∨ r = 2 := by omega
        clear hr hrb hrc
        rcases hr3 with rfl | rfl | rfl
        · skip
          (conv => whnf)
          (conv => whnf); try (refine VSeq.run ?_)
          (conv => whnf); try (refine VSeq.run ?_)
          (conv => whnf); refine VDraw.heldZ (fun q => q = p7 ∨ q = pa) [10] (sq [0,1,2,3,4] (.f 5 (sq [6,7,8,9] (.f 10 .e)))) rfl (by kernel_rfl) ?_
          (conv => whnf); refine ixa ar41 (by decide) (by decide) ?_
          (conv => whnf); refine ld1 (v := .pointer (some ⟨n1.s, 0, none⟩)) ct27 (by rw [(stg2.blk 2 rfl).cell]; rfl) (.inl rfl) ?_
          (conv => whnf); refine VC.fa fl46_1 ?_
          (conv => whnf); refine ld1 (v := .string A.2.1) ct9 (by rw [(stg2.blk 18 rfl).cell]; rfl) (.inr rfl) ?_
          (conv => whnf); refine VCall.mk (read_p (i := 11) (s := n1.s) (fm := n1.fm) (rm := n1.rm) (wm := n1.wm) (x := y1) (tgt := (allP (keptP SK ka kc L) (wantP SW wa wc L) p7 p8 n0 n1 y0 y0 (read1 y1) y1 ++ [pB 46 pa (actL A)])) sen stg2 (by omega) (by unfold maxLen; omega) (.inl ⟨rfl, ⟨rfl, rfl, rfl, rfl⟩, hy1.rise, rfl⟩)) ?_
          rintro _ G3 ⟨qe, rfl, st3⟩
          refine ⟨fun q hq => by
            rcases hq with rfl | rfl
            · have h1 := st3.blk 2 rfl
              have h2 := stg2.blk 2 rfl
              unfold Blk at h1 h2
              rw [h1, h2]
            · have h1 := st3.blk 18 rfl
              have h2 := stg2.blk 18 rfl
              unfold Blk at h1 h2
              rw [h1, h2], ?_⟩
          (conv => whnf)
          (conv => whnf); refine VDraw.heldZ (fun q => q = p8 ∨ q = pa) [10] (sq [0,1,2,3,4] (.f 5 (sq [6,7,8,9] (.f 10 .e)))) rfl (by kernel_rfl) ?_
          (conv => whnf); refine ixa ar42 (by decide) (by decide) ?_
          (conv => whnf); refine ld1 (v := .pointer (some ⟨n1.sd, 0, none⟩)) ct28 (by rw [(st3.blk 3 rfl).cell]; rfl) (.inl rfl) ?_
          (conv => whnf); refine VC.fa fl46_1 ?_
          (conv => whnf); refine ld1 (v := .string A.2.1) ct9 (by rw [(st3.blk 18 rfl).cell]; rfl) (.inr rfl) ?_
          (conv => whnf); refine VCall.mk (dread_p (j := 15) (sd := n1.sd) (fa := n1.fa) (fc := n1.fc) (ba := n1.ba) (bc := n1.bc) (x := y1) (name := A.2.1) st3 ⟨rfl, rfl, rfl⟩ (by omega) hy1.rise (by unfold maxLen; omega)) ?_
          rintro _ G4 ⟨rfl, st4'⟩
          have st4 : St H G4 ((allP (keptP SK ka kc L) (wantP SW wa wc L) p7 p8 n0 n1 y0 y0 (read1 y1) (read1 y1) ++ [pB 46 pa (actL A)]) ++ errPs b o rdT A.2.1 (readM y1 A.2.1).2 qe) := st4'
          clear st4'
          refine ⟨fun q hq => by
            rcases hq with rfl | rfl
            · have h1 := st4.blk 3 rfl
              have h2 := st3.blk 3 rfl
              unfold Blk at h1 h2
              rw [h1, h2]
            · have h1 := st4.blk 18 rfl
              have h2 := st3.blk 18 rfl
              unfold Blk at h1 h2
              rw [h1, h2], ?_⟩
          (conv => whnf)
          have hle := read_le y1 A.2.1
          generalize readM y1 A.2.1 = R at st4 hle
          obtain ⟨rt, rc⟩ := R
          have d7 : ((rc : Int) != (rc : Int)) = false := by simp
          (conv => whnf); rw [txt_dec, decide_eq_true rfl]
          (conv => whnf); refine VC.fa fl46_1 ?_
          (conv => whnf); refine ld1 (v := .string A.2.1) ct9 (by rw [(st4.blk 18 rfl).cell]; rfl) trivial ?_
          (conv => whnf); refine pures (cause_c sen st4 (by decide) hzn hle) fun G5 hg5 => ?_
          have st5 : St H G5 (allP (keptP SK ka kc L) (wantP SW wa wc L) p7 p8 n0 n1 y0 y0 (read1 y1) (read1 y1) ++ [pB 46 pa (actL A)]) := (st4.call hg5).left
          clear st3 st4 stg2
          (conv => whnf); rw [d7]
          (conv => whnf)
          refine VLoop.mk [22] (fun j : Nat => [.int .i64 (j : Int)]) (fun j G => j ≤ L.length ∧ St H G (allP (keptP SK ka kc L) (wantP SW wa wc L) p7 p8 n0 n1 y0 y0 (read1 y1) (read1 y1) ++ [pB 46 pa (actL A)])) (fun j _ => L.length - j) ?_ ?_
          · (conv => whnf)
            exact ⟨0, rfl, Nat.zero_le _, st5⟩
          · clear st5
            rintro j G junk8 ⟨hj, stc⟩
            (conv => whnf); refine VIte.mk (fun hz => ?_) (fun hz => ?_) <;> simp only [decide_eq_true_eq, decide_eq_false_iff_not] at hz
            · have hjl : j < L.length := by omega
              obtain ⟨R, hR⟩ : ∃ R, L[j]? = some R := ⟨L[j], List.getElem?_eq_getElem hjl⟩
              (conv => whnf); refine VDraw.quiet (Old G) rfl (by kernel_rfl) ?_
              (conv => whnf); refine ixO sl43 stc 0 rfl hR rfl ?_
              intro b8 o8 c8 hb8 hc8 hr8
              obtain ⟨ra, rc, rfl, hrow⟩ := hr8
              (conv => whnf); refine ld1 (v := .slice ra R.length rc) ct31 (hc8 0 _ rfl) hb8 ?_
              (conv => whnf); refine ixO sl44 stc 1 rfl hR rfl ?_
              intro b9 o9 c9 hb9 hc9 hr9
              obtain ⟨ra2, rc2, rfl, hrow2⟩ := hr9
              (conv => whnf); refine ld1 (v := .slice ra2 R.length rc2) ct52 (hc9 0 _ rfl) hb9 ?_
              (conv => whnf); refine pureq (fun H' h' => same_p (hrow.frame h') (hrow2.frame h') (fun k hk => old_lt h' hk)) ?_
              (conv => whnf)
              intro G9 hg9
              (conv => whnf); rw [w64 (x := (j : Int) + 1) (by omega) (by omega)]
              exact ⟨rfl, j + 1, rfl, ⟨by omega, stc.call hg9⟩, by omega⟩
            · (conv => whnf); rw [w64 (x := (i : Int) + 1) (by omega) (by omega)]
              exact ⟨rfl, (i + 1, ka, kc, wa, wc, L.length), rfl, ⟨by omega, L, SK, SW, n0, n1, y0, (read1 y1), rfl, by omega, hy0, hy1, by omega, by show (y1.reads + 1) + y1.writes ≤ i + 1; omega, stc.left⟩, by show acts.length - (i + 1) < acts.length - i; omega⟩
        · skip
          (conv => whnf)
          (conv => whnf); try (refine VSeq.run ?_)
          (conv => whnf); try (refine VSeq.run ?_)
          (conv => whnf); try (refine VSeq.run ?_)
          (conv => whnf); refine VDraw.heldZ (fun q => q = p7 ∨ q = pa) [8] (sq [0,1,2,3,4,5,6] (.f 7 (.f 8 .e))) rfl (by kernel_rfl) ?_
          (conv => whnf); refine ixa ar41 (by decide) (by decide) ?_
          (conv => whnf); refine ld1 (v := .pointer (some ⟨n1.s, 0, none⟩)) ct27 (by rw [(stg2.blk 2 rfl).cell]; rfl) (.inl rfl) ?_
          (conv => whnf); refine VC.fa fl46_1 ?_
          (conv => whnf); refine ld1 (v := .string A.2.1) ct9 (by rw [(stg2.blk 18 rfl).cell]; rfl) (.inr rfl) ?_
          (conv => whnf); refine VC.fa fl46_2 ?_
          (conv => whnf); refine ld1 (v := .string A.2.2.1) ct9 (by rw [(stg2.blk 18 rfl).cell]; rfl) (.inr rfl) ?_
          (conv => whnf); refine VCall.mk (write_p (i := 11) (s := n1.s) (fm := n1.fm) (rm := n1.rm) (wm := n1.wm) (x := y1) sen stg2 (by omega) (by unfold maxLen; omega) (by unfold maxLen; omega) ⟨rfl, rfl, rfl, rfl⟩ hy1.rise) ?_
          rintro _ G3 ⟨qe, rfl, st3'⟩
          have st3 : St H G3 ((allP (keptP SK ka kc L) (wantP SW wa wc L) p7 p8 n0 n1 y0 y0 (write1 y1 A.2.1 A.2.2.1) y1 ++ [pB 46 pa (actL A)]) ++ errPs b o wrT A.2.1 (writeM y1 A.2.1 A.2.2.1).1 qe) := st3'
          clear st3'
          obtain ⟨wfs, -, -, -, -, wc4⟩ := write_fs (x := y1) hy1 (n := A.2.1) (d := A.2.2.1) (by unfold maxLen; omega)
          refine ⟨fun q hq => by
            rcases hq with rfl | rfl
            · have h1 := st3.blk 2 rfl
              have h2 := stg2.blk 2 rfl
              unfold Blk at h1 h2
              rw [h1, h2]
            · have h1 := st3.blk 18 rfl
              have h2 := stg2.blk 18 rfl
              unfold Blk at h1 h2
              rw [h1, h2], ?_⟩
          (conv => whnf)
          (conv => whnf); refine VDraw.heldZ (fun q => q = p8 ∨ q = pa) [] (sq [0,1,2,4,5,6,7,8,9,10] (.f 3 (.f 11 (sq [12] .e)))) rfl (by kernel_rfl) ?_
          (conv => whnf); refine VC.fa fl46_1 ?_
          (conv => whnf); refine ld1 (v := .string A.2.1) ct9 (by rw [(st3.blk 18 rfl).cell]; rfl) (.inr rfl) ?_
          (conv => whnf); refine ixa ar42 (by decide) (by decide) ?_
          (conv => whnf); refine ld1 (v := .pointer (some ⟨n1.sd, 0, none⟩)) ct28 (by rw [(st3.blk 3 rfl).cell]; rfl) (.inl rfl) ?_
          (conv => whnf); refine VC.fa fl46_1 ?_
          (conv => whnf); refine ld1 (v := .string A.2.1) ct9 (by rw [(st3.blk 18 rfl).cell]; rfl) (.inr rfl) ?_
          (conv => whnf); refine VC.fa fl46_2 ?_
          (conv => whnf); refine ld1 (v := .string A.2.2.1) ct9 (by rw [(st3.blk 18 rfl).cell]; rfl) (.inr rfl) ?_
          (conv => whnf); refine pures (cause_c sen st3 (by decide) hzn wc4) fun G5 hg5 => ?_
          have st5 : St H G5 (allP (keptP SK ka kc L) (wantP SW wa wc L) p7 p8 n0 n1 y0 y0 (write1 y1 A.2.1 A.2.2.1) y1 ++ [pB 46 pa (actL A)]) := (st3.call hg5).left
          refine ⟨fun q hq => by
            rcases hq with rfl | rfl
            · have h1 := st5.blk 3 rfl
              have h2 := st3.blk 3 rfl
              unfold Blk at h1 h2
              rw [h1, h2]
            · have h1 := st5.blk 18 rfl
              have h2 := st3.blk 18 rfl
              unfold Blk at h1 h2
              rw [h1, h2], ?_⟩
          (conv => whnf); refine VCall.mk (dwrite_p (j := 15) (sd := n1.sd) (fa := n1.fa) (fc := n1.fc) (ba := n1.ba) (bc := n1.bc) (x := y1) (name := A.2.1) (data := A.2.2.1) st5 ⟨rfl, rfl, rfl⟩ (by omega) hy1 (by unfold maxLen; omega) (by unfold maxLen; omega)) ?_
          rintro _ G6 ⟨rfl, fa', fc', st6'⟩
          obtain ⟨n', hn'⟩ : ∃ n' : SyN, n' = ⟨n1.s, n1.fm, n1.rm, n1.wm, n1.sd, fa', fc', n1.ba, n1.bc⟩ := ⟨_, rfl⟩
          have st6 : St H G6 (allP (keptP SK ka kc L) (wantP SW wa wc L) p7 p8 n0 n' y0 y0 (write1 y1 A.2.1 A.2.2.1) (write1 y1 A.2.1 A.2.2.1) ++ [pB 46 pa (actL A)]) := by rw [hn']; exact st6'
          have hs' : n'.s = n1.s ∧ n'.sd = n1.sd := by rw [hn']; exact ⟨rfl, rfl⟩
          clear st6' hn'
          refine ⟨fun q hq => by
            rcases hq with rfl | rfl
            · have h1 := st6.blk 3 rfl
              have h2 := st3.blk 3 rfl
              rw [hs'.2] at h1
              unfold Blk at h1 h2
              rw [h1, h2]
            · have h1 := st6.blk 18 rfl
              have h2 := st3.blk 18 rfl
              unfold Blk at h1 h2
              rw [h1, h2], ?_⟩
          have d7 : (((writeM y1 A.2.1 A.2.2.1).1 : Int) != ((writeM y1 A.2.1 A.2.2.1).1 : Int)) = false := by simp
          clear st3 st5 stg2
          (conv => whnf); rw [d7]
          (conv => whnf)
          refine VLoop.mk [22] (fun j : Nat => [.int .i64 (j : Int)]) (fun j G => j ≤ L.length ∧ St H G (allP (keptP SK ka kc L) (wantP SW wa wc L) p7 p8 n0 n' y0 y0 (write1 y1 A.2.1 A.2.2.1) (write1 y1 A.2.1 A.2.2.1) ++ [pB 46 pa (actL A)])) (fun j _ => L.length - j) ?_ ?_
          · (conv => whnf)
            exact ⟨0, rfl, Nat.zero_le _, st6⟩
          · clear st6
            rintro j G junk8 ⟨hj, stc⟩
            (conv => whnf); refine VIte.mk (fun hz => ?_) (fun hz => ?_) <;> simp only [decide_eq_true_eq, decide_eq_false_iff_not] at hz
            · have hjl : j < L.length := by omega
              obtain ⟨R, hR⟩ : ∃ R, L[j]? = some R := ⟨L[j], List.getElem?_eq_getElem hjl⟩
              (conv => whnf); refine VDraw.quiet (Old G) rfl (by kernel_rfl) ?_
              (conv => whnf); refine ixO sl43 stc 0 rfl hR rfl ?_
              intro b8 o8 c8 hb8 hc8 hr8
              obtain ⟨ra, rc, rfl, hrow⟩ := hr8
              (conv => whnf); refine ld1 (v := .slice ra R.length rc) ct31 (hc8 0 _ rfl) hb8 ?_
              (conv => whnf); refine ixO sl44 stc 1 rfl hR rfl ?_
              intro b9 o9 c9 hb9 hc9 hr9
              obtain ⟨ra2, rc2, rfl, hrow2⟩ := hr9
              (conv => whnf); refine ld1 (v := .slice ra2 R.length rc2) ct52 (hc9 0 _ rfl) hb9 ?_
              (conv => whnf); refine pureq (fun H' h' => same_p (hrow.frame h') (hrow2.frame h') (fun k hk => old_lt h' hk)) ?_
              (conv => whnf)
              intro G9 hg9
              (conv => whnf); rw [w64 (x := (j : Int) + 1) (by omega) (by omega)]
              exact ⟨rfl, j + 1, rfl, ⟨by omega, stc.call hg9⟩, by omega⟩
            · (conv => whnf); rw [w64 (x := (i : Int) + 1) (by omega) (by omega)]
              exact ⟨rfl, (i + 1, ka, kc, wa, wc, L.length), rfl, ⟨by omega, L, SK, SW, n0, n', y0, (write1 y1 A.2.1 A.2.2.1), rfl, by omega, hy0, wfs, by omega, by show y1.reads + (y1.writes + 1) ≤ i + 1; omega, stc.left⟩, by show acts.length - (i + 1) < acts.length - i; omega⟩
        · skip
          (conv => whnf)
          (conv => whnf); try (refine VSeq.run ?_)
          (conv => whnf); try (refine VSeq.run ?_)
          (conv => whnf); try (refine VSeq.run ?_)
          (conv => whnf); refine ixa ar41 (by decide) (by decide) ?_
          (conv => whnf); refine ld1 (v := .pointer (some ⟨n1.s, 0, none⟩)) ct27 (by rw [(stg2.blk 2 rfl).cell]; rfl) trivial ?_
          (conv => whnf); refine VCall.mk (list_p (i := 11) (s := n1.s) (fm := n1.fm) (rm := n1.rm) (wm := n1.wm) (x := y1) stg2 ⟨rfl, rfl, rfl, rfl⟩ hy1) ?_
          rintro _ G3 ⟨al, cl, rfl, st3⟩
          (conv => whnf); refine ixa ar41 (by decide) (by decide) ?_
          (conv => whnf); refine ld1 (v := .pointer (some ⟨n1.s, 0, none⟩)) ct27 (by rw [(st3.blk 2 rfl).cell]; rfl) trivial ?_
          (conv => whnf); refine VCall.mk (list_p (i := 11) (s := n1.s) (fm := n1.fm) (rm := n1.rm) (wm := n1.wm) (x := y1) st3 ⟨rfl, rfl, rfl, rfl⟩ hy1) ?_
          rintro _ G4 ⟨am, cm, rfl, st4'⟩
          have st4 : St H G4 ((allP (keptP SK ka kc L) (wantP SW wa wc L) p7 p8 n0 n1 y0 y0 y1 y1 ++ [pB 46 pa (actL A)]) ++ [pS tFile 33 al y1.files.length cl y1.files, pS tFile 33 am y1.files.length cm y1.files]) := by rw [List.append_assoc] at st4'; exact st4'
          clear st3 st4' stg2
          (conv => whnf); refine ixa ar42 (by decide) (by decide) ?_
          (conv => whnf); refine ld1 (v := .pointer (some ⟨n1.sd, 0, none⟩)) ct28 (by rw [(st4.blk 3 rfl).cell]; rfl) trivial ?_
          (conv => whnf); refine VC.fa fl55_0 ?_
          (conv => whnf); refine ld1 (v := .slice n1.fa y1.files.length n1.fc) ct52 (by rw [(st4.blk 15 rfl).cell]; rfl) trivial ?_
          (conv => whnf); refine pures (same_p (st4.view 19 rfl) (st4.view 16 rfl) (fun k hk => hk)) fun G5 hg5 => ?_
          have st5 := st4.call hg5
          (conv => whnf); refine ixa ar42 (by decide) (by decide) ?_
          (conv => whnf); refine ld1 (v := .pointer (some ⟨n1.sd, 0, none⟩)) ct28 (by rw [(st5.blk 3 rfl).cell]; rfl) trivial ?_
          (conv => whnf); refine VC.fa fl55_0 ?_
          (conv => whnf); refine ld1 (v := .slice n1.fa y1.files.length n1.fc) ct52 (by rw [(st5.blk 15 rfl).cell]; rfl) trivial ?_
          (conv => whnf); refine pures (same_p (st5.view 20 rfl) (st5.view 16 rfl) (fun k hk => hk)) fun G6 hg6 => ?_
          have st6 := st5.call hg6
          clear st4 st5
          (conv => whnf)
          refine VLoop.mk [21] (fun j : Nat => [.int .i64 (j : Int)]) (fun j G => j ≤ y1.files.length ∧ ∃ FS, FS.length = y1.files.length ∧ St H G ((allP (keptP SK ka kc L) (wantP SW wa wc L) p7 p8 n0 n1 y0 y0 y1 y1 ++ [pB 46 pa (actL A)]) ++ [pS tFile 33 al y1.files.length cl FS, pS tFile 33 am y1.files.length cm y1.files])) (fun j _ => y1.files.length - j) ?_ ?_
          · (conv => whnf)
            exact ⟨0, rfl, Nat.zero_le _, y1.files, rfl, st6⟩
          · clear st6
            rintro j G junk5 ⟨hj, FS, hFS, sts⟩
            have hy64 := hy1.len
            (conv => whnf); refine VIte.mk (fun hz => ?_) (fun hz => ?_) <;> simp only [decide_eq_true_eq, decide_eq_false_iff_not] at hz
            · have hjl : j < FS.length := by omega
              obtain ⟨b5, cap, l5, cs5, e, -⟩ := (sts.at_ 19 rfl).1.place hjl
              injection e with e1 e2 e3
              subst e1; subst e3
              (conv => whnf); refine vbuildS Tryd.underlying33 rfl _ rfl (fileL (spoT, ⟨#[]⟩)) rfl ?_
              (conv => whnf); refine ixE sl31 sts 19 rfl hjl rfl ?_
              (conv => whnf); refine stNO (cs := fileL (spoT, ⟨#[]⟩)) (x := (spoT, ⟨#[]⟩)) sts 19 rfl rfl rfl hjl rfl (fun H' _ => ⟨[.string spoT], [.string ⟨#[]⟩], rfl, ⟨rfl, by decide⟩, ⟨rfl, by decide⟩⟩) fun G2 sts2 => ?_
              (conv => whnf); rw [w64 (x := (j : Int) + 1) (by omega) (by omega)]
              exact ⟨rfl, j + 1, rfl, ⟨by omega, FS.set j (spoT, ⟨#[]⟩), by rw [List.length_set]; exact hFS, sts2⟩, by omega⟩
            · have sk0 : St H G (keptP SK ka kc L :: pS tFile 33 am y1.files.length cm y1.files :: ((allP (keptP SK ka kc L) (wantP SW wa wc L) p7 p8 n0 n1 y0 y0 y1 y1 ++ [pB 46 pa (actL A)]).tail)) := sts.pick [0, 20, 1, 2, 3, 4, 5, 6, 7, 8, 9, 10, 11, 12, 13, 14, 15, 16, 17, 18] (by decide)
              (conv => whnf); refine vbuild1 sl43 [.slice am y1.files.length cm] rfl rfl (by decide) (by decide) ?_
              intro q6 G6 hq6 hs6 hb6 ha6
              have hrow := row_rep (S := SK) sts (i := 20) rfl (ha6.mono fun k hk => by have : k < G.size := hk; omega)
              have sk1 := (StB.absorb (T := tFile) sk0).skip hq6 ha6
              clear sk0 sts
              (conv => whnf); refine appNO (T := tFile) sk1 sl43 (hb6.cells fun j v hv => by rw [Nat.zero_add]; exact hv) hrow rfl (by intro u hu; cases List.mem_singleton.1 hu; rfl) (by omega) (by decide) fun ka' kc' G7 sk2' => ?_
              have el : L.length + 1 = (L ++ [y1.files]).length := by simp
              rw [el] at sk2' ⊢
              obtain ⟨SK', hSK'⟩ : ∃ SK' : Nat → Prop, SK' = (fun k => SK k ∨ slB (.slice am y1.files.length cm) k) := ⟨_, rfl⟩
              rw [← hSK'] at sk2'
              have sk2 : St H G7 (allP (keptP SK' ka' kc' (L ++ [y1.files])) (wantP SW wa wc L) p7 p8 n0 n1 y0 y0 y1 y1 ++ [pB 46 pa (actL A)]) := sk2'
              clear sk1 sk2' hrow
              (conv => whnf); refine ixa ar42 (by decide) (by decide) ?_
              (conv => whnf); refine ld1 (v := .pointer (some ⟨n1.sd, 0, none⟩)) ct28 (by rw [(sk2.blk 3 rfl).cell]; rfl) trivial ?_
              (conv => whnf); refine VC.fa fl55_0 ?_
              (conv => whnf); refine ld1 (v := .slice n1.fa y1.files.length n1.fc) ct52 (by rw [(sk2.blk 15 rfl).cell]; rfl) trivial ?_
              (conv => whnf); refine VCall.mk (copied_p sk2 (i := 16) rfl (by omega)) ?_
              rintro _ G8 ⟨a9, c9, rfl, sk3⟩
              have sk4 : St H G8 (wantP SW wa wc L :: pS tFile 65 a9 y1.files.length c9 y1.files :: (keptP SK' ka' kc' (L ++ [y1.files])) :: ((allP (keptP SK' ka' kc' (L ++ [y1.files])) (wantP SW wa wc L) p7 p8 n0 n1 y0 y0 y1 y1 ++ [pB 46 pa (actL A)]).tail.tail)) := sk3.pick [1, 19, 0, 2, 3, 4, 5, 6, 7, 8, 9, 10, 11, 12, 13, 14, 15, 16, 17, 18] (by decide)
              (conv => whnf); refine vbuild1 sl44 [.slice a9 y1.files.length c9] rfl rfl (by decide) (by decide) ?_
              intro q9 G9 hq9 hs9 hb9 ha9
              have hrow9 := row_rep (S := SW) sk3 (i := 19) rfl (ha9.mono fun k hk => by have : k < G8.size := hk; omega)
              have sk5 := (StB.absorb (T := tFile) sk4).skip hq9 ha9
              clear sk2 sk3 sk4
              (conv => whnf); refine appNO (T := tFile) sk5 sl44 (hb9.cells fun j v hv => by rw [Nat.zero_add]; exact hv) hrow9 rfl (by intro u hu; cases List.mem_singleton.1 hu; rfl) (by omega) (by decide) fun wa' wc' G10 sk6 => ?_
              rw [el] at sk6 ⊢
              obtain ⟨SW', hSW'⟩ : ∃ SW' : Nat → Prop, SW' = (fun k => SW k ∨ slB (.slice a9 y1.files.length c9) k) := ⟨_, rfl⟩
              rw [← hSW'] at sk6
              have sk7 : St H G10 (allP (keptP SK' ka' kc' (L ++ [y1.files])) (wantP SW' wa' wc' (L ++ [y1.files])) p7 p8 n0 n1 y0 y0 y1 y1 ++ [pB 46 pa (actL A)]) := sk6.pick [1, 0, 2, 3, 4, 5, 6, 7, 8, 9, 10, 11, 12, 13, 14, 15, 16, 17, 18] (by decide)
              clear sk5 sk6 hrow9 hSK' hSW'
              have hLi2 : (L ++ [y1.files]).length ≤ i + 1 := by rw [← el]; omega
              clear el
              generalize L ++ [y1.files] = L2 at sk7 hLi2 ⊢
              (conv => whnf)
              refine VLoop.mk [22] (fun j : Nat => [.int .i64 (j : Int)]) (fun j G => j ≤ L2.length ∧ St H G (allP (keptP SK' ka' kc' L2) (wantP SW' wa' wc' L2) p7 p8 n0 n1 y0 y0 y1 y1 ++ [pB 46 pa (actL A)])) (fun j _ => L2.length - j) ?_ ?_
              · (conv => whnf)
                exact ⟨0, rfl, Nat.zero_le _, sk7⟩
              · clear sk7
                rintro j G junk8 ⟨hj, stc⟩
                (conv => whnf); refine VIte.mk (fun hz => ?_) (fun hz => ?_) <;> simp only [decide_eq_true_eq, decide_eq_false_iff_not] at hz
                · have hjl : j < L2.length := by omega
                  obtain ⟨R, hR⟩ : ∃ R, L2[j]? = some R := ⟨L2[j], List.getElem?_eq_getElem hjl⟩
                  (conv => whnf); refine VDraw.quiet (Old G) rfl (by kernel_rfl) ?_
                  (conv => whnf); refine ixO sl43 stc 0 rfl hR rfl ?_
                  intro b8 o8 c8 hb8 hc8 hr8
                  obtain ⟨ra, rc, rfl, hrow⟩ := hr8
                  (conv => whnf); refine ld1 (v := .slice ra R.length rc) ct31 (hc8 0 _ rfl) hb8 ?_
                  (conv => whnf); refine ixO sl44 stc 1 rfl hR rfl ?_
                  intro b9 o9 c9 hb9 hc9 hr9
                  obtain ⟨ra2, rc2, rfl, hrow2⟩ := hr9
                  (conv => whnf); refine ld1 (v := .slice ra2 R.length rc2) ct52 (hc9 0 _ rfl) hb9 ?_
                  (conv => whnf); refine pureq (fun H' h' => same_p (hrow.frame h') (hrow2.frame h') (fun k hk => old_lt h' hk)) ?_
                  (conv => whnf)
                  intro G9 hg9
                  (conv => whnf); rw [w64 (x := (j : Int) + 1) (by omega) (by omega)]
                  exact ⟨rfl, j + 1, rfl, ⟨by omega, stc.call hg9⟩, by omega⟩
                · (conv => whnf); rw [w64 (x := (i : Int) + 1) (by omega) (by omega)]
                  exact ⟨rfl, (i + 1, ka', kc', wa', wc', L2.length), rfl, ⟨by omega, L2, SK', SW', n0, n1, y0, y1, rfl, hLi2, hy0, hy1, by omega, by omega, stc.left⟩, by show acts.length - (i + 1) < acts.length - i; omega⟩
      | false =>
        (conv => whnf); try (refine VSeq.run ?_)
        (conv => whnf); refine VC.fa fl46_0 ?_
        (conv => whnf); refine ld1 (v := .int .i64 A.1) ct3 (by rw [hpa.cell]; rfl) trivial ?_
        (conv => whnf); refine vremI (by decide) ?_
        have hrb := rem3b (a := A.1)
        have hrc := rem3 (a := A.1)
        (conv => whnf); rw [w64 (x := A.1.tmod 3 + 3) (by omega) (by omega)]
        (conv => whnf); refine vremI (by decide) ?_
        obtain ⟨r, hr⟩ : ∃ r, r = (A.1.tmod 3 + 3).tmod 3 := ⟨_, rfl⟩
        rw [← hr] at hrc ⊢
        have hr3 : r = 0 ∨ r = 1 ∨ r = 2 := by omega
        clear hr hrb hrc
        rcases hr3 with rfl | rfl | rfl
        · skip
          (conv => whnf)
          (conv => whnf); try (refine VSeq.run ?_)
          (conv => whnf); try (refine VSeq.run ?_)
          (conv => whnf); refine VDraw.heldZ (fun q => q = p7 ∨ q = pa) [10] (sq [0,1,2,3,4] (.f 5 (sq [6,7,8,9] (.f 10 .e)))) rfl (by kernel_rfl) ?_
          (conv => whnf); refine ixa ar41 (by decide) (by decide) ?_
          (conv => whnf); refine ld1 (v := .pointer (some ⟨n0.s, 0, none⟩)) ct27 (by rw [(stg2.blk 2 rfl).cell]; rfl) (.inl rfl) ?_
          (conv => whnf); refine VC.fa fl46_1 ?_
          (conv => whnf); refine ld1 (v := .string A.2.1) ct9 (by rw [(stg2.blk 18 rfl).cell]; rfl) (.inr rfl) ?_
          (conv => whnf); refine VCall.mk (read_p (i := 4) (s := n0.s) (fm := n0.fm) (rm := n0.rm) (wm := n0.wm) (x := y0) (tgt := (allP (keptP SK ka kc L) (wantP SW wa wc L) p7 p8 n0 n1 (read1 y0) y0 y1 y1 ++ [pB 46 pa (actL A)])) sen stg2 (by omega) (by unfold maxLen; omega) (.inl ⟨rfl, ⟨rfl, rfl, rfl, rfl⟩, hy0.rise, rfl⟩)) ?_
          rintro _ G3 ⟨qe, rfl, st3⟩
          refine ⟨fun q hq => by
            rcases hq with rfl | rfl
            · have h1 := st3.blk 2 rfl
              have h2 := stg2.blk 2 rfl
              unfold Blk at h1 h2
              rw [h1, h2]
            · have h1 := st3.blk 18 rfl
              have h2 := stg2.blk 18 rfl
              unfold Blk at h1 h2
              rw [h1, h2], ?_⟩
          (conv => whnf)
          (conv => whnf); refine VDraw.heldZ (fun q => q = p8 ∨ q = pa) [10] (sq [0,1,2,3,4] (.f 5 (sq [6,7,8,9] (.f 10 .e)))) rfl (by kernel_rfl) ?_
          (conv => whnf); refine ixa ar42 (by decide) (by decide) ?_
          (conv => whnf); refine ld1 (v := .pointer (some ⟨n0.sd, 0, none⟩)) ct28 (by rw [(st3.blk 3 rfl).cell]; rfl) (.inl rfl) ?_
          (conv => whnf); refine VC.fa fl46_1 ?_
          (conv => whnf); refine ld1 (v := .string A.2.1) ct9 (by rw [(st3.blk 18 rfl).cell]; rfl) (.inr rfl) ?_
          (conv => whnf); refine VCall.mk (dread_p (j := 8) (sd := n0.sd) (fa := n0.fa) (fc := n0.fc) (ba := n0.ba) (bc := n0.bc) (x := y0) (name := A.2.1) st3 ⟨rfl, rfl, rfl⟩ (by omega) hy0.rise (by unfold maxLen; omega)) ?_
          rintro _ G4 ⟨rfl, st4'⟩
          have st4 : St H G4 ((allP (keptP SK ka kc L) (wantP SW wa wc L) p7 p8 n0 n1 (read1 y0) (read1 y0) y1 y1 ++ [pB 46 pa (actL A)]) ++ errPs b o rdT A.2.1 (readM y0 A.2.1).2 qe) := st4'
          clear st4'
          refine ⟨fun q hq => by
            rcases hq with rfl | rfl
            · have h1 := st4.blk 3 rfl
              have h2 := st3.blk 3 rfl
              unfold Blk at h1 h2
              rw [h1, h2]
            · have h1 := st4.blk 18 rfl
              have h2 := st3.blk 18 rfl
              unfold Blk at h1 h2
              rw [h1, h2], ?_⟩
          (conv => whnf)
          have hle := read_le y0 A.2.1
          generalize readM y0 A.2.1 = R at st4 hle
          obtain ⟨rt, rc⟩ := R
          have d7 : ((rc : Int) != (rc : Int)) = false := by simp
          (conv => whnf); rw [txt_dec, decide_eq_true rfl]
          (conv => whnf); refine VC.fa fl46_1 ?_
          (conv => whnf); refine ld1 (v := .string A.2.1) ct9 (by rw [(st4.blk 18 rfl).cell]; rfl) trivial ?_
          (conv => whnf); refine pures (cause_c sen st4 (by decide) hzn hle) fun G5 hg5 => ?_
          have st5 : St H G5 (allP (keptP SK ka kc L) (wantP SW wa wc L) p7 p8 n0 n1 (read1 y0) (read1 y0) y1 y1 ++ [pB 46 pa (actL A)]) := (st4.call hg5).left
          clear st3 st4 stg2
          (conv => whnf); rw [d7]
          (conv => whnf)
          refine VLoop.mk [22] (fun j : Nat => [.int .i64 (j : Int)]) (fun j G => j ≤ L.length ∧ St H G (allP (keptP SK ka kc L) (wantP SW wa wc L) p7 p8 n0 n1 (read1 y0) (read1 y0) y1 y1 ++ [pB 46 pa (actL A)])) (fun j _ => L.length - j) ?_ ?_
          · (conv => whnf)
            exact ⟨0, rfl, Nat.zero_le _, st5⟩
          · clear st5
            rintro j G junk8 ⟨hj, stc⟩
            (conv => whnf); refine VIte.mk (fun hz => ?_) (fun hz => ?_) <;> simp only [decide_eq_true_eq, decide_eq_false_iff_not] at hz
            · have hjl : j < L.length := by omega
              obtain ⟨R, hR⟩ : ∃ R, L[j]? = some R := ⟨L[j], List.getElem?_eq_getElem hjl⟩
              (conv => whnf); refine VDraw.quiet (Old G) rfl (by kernel_rfl) ?_
              (conv => whnf); refine ixO sl43 stc 0 rfl hR rfl ?_
              intro b8 o8 c8 hb8 hc8 hr8
              obtain ⟨ra, rc, rfl, hrow⟩ := hr8
              (conv => whnf); refine ld1 (v := .slice ra R.length rc) ct31 (hc8 0 _ rfl) hb8 ?_
              (conv => whnf); refine ixO sl44 stc 1 rfl hR rfl ?_
              intro b9 o9 c9 hb9 hc9 hr9
              obtain ⟨ra2, rc2, rfl, hrow2⟩ := hr9
              (conv => whnf); refine ld1 (v := .slice ra2 R.length rc2) ct52 (hc9 0 _ rfl) hb9 ?_
              (conv => whnf); refine pureq (fun H' h' => same_p (hrow.frame h') (hrow2.frame h') (fun k hk => old_lt h' hk)) ?_
              (conv => whnf)
              intro G9 hg9
              (conv => whnf); rw [w64 (x := (j : Int) + 1) (by omega) (by omega)]
              exact ⟨rfl, j + 1, rfl, ⟨by omega, stc.call hg9⟩, by omega⟩
            · (conv => whnf); rw [w64 (x := (i : Int) + 1) (by omega) (by omega)]
              exact ⟨rfl, (i + 1, ka, kc, wa, wc, L.length), rfl, ⟨by omega, L, SK, SW, n0, n1, (read1 y0), y1, rfl, by omega, hy0, hy1, by show (y0.reads + 1) + y0.writes ≤ i + 1; omega, by omega, stc.left⟩, by show acts.length - (i + 1) < acts.length - i; omega⟩
        · skip
          (conv => whnf)
          (conv => whnf); try (refine VSeq.run ?_)
          (conv => whnf); try (refine VSeq.run ?_)
          (conv => whnf); try (refine VSeq.run ?_)
          (conv => whnf); refine VDraw.heldZ (fun q => q = p7 ∨ q = pa) [8] (sq [0,1,2,3,4,5,6] (.f 7 (.f 8 .e))) rfl (by kernel_rfl) ?_
          (conv => whnf); refine ixa ar41 (by decide) (by decide) ?_
          (conv => whnf); refine ld1 (v := .pointer (some ⟨n0.s, 0, none⟩)) ct27 (by rw [(stg2.blk 2 rfl).cell]; rfl) (.inl rfl) ?_
          (conv => whnf); refine VC.fa fl46_1 ?_
          (conv => whnf); refine ld1 (v := .string A.2.1) ct9 (by rw [(stg2.blk 18 rfl).cell]; rfl) (.inr rfl) ?_
          (conv => whnf); refine VC.fa fl46_2 ?_
          (conv => whnf); refine ld1 (v := .string A.2.2.1) ct9 (by rw [(stg2.blk 18 rfl).cell]; rfl) (.inr rfl) ?_
          (conv => whnf); refine VCall.mk (write_p (i := 4) (s := n0.s) (fm := n0.fm) (rm := n0.rm) (wm := n0.wm) (x := y0) sen stg2 (by omega) (by unfold maxLen; omega) (by unfold maxLen; omega) ⟨rfl, rfl, rfl, rfl⟩ hy0.rise) ?_
          rintro _ G3 ⟨qe, rfl, st3'⟩
          have st3 : St H G3 ((allP (keptP SK ka kc L) (wantP SW wa wc L) p7 p8 n0 n1 (write1 y0 A.2.1 A.2.2.1) y0 y1 y1 ++ [pB 46 pa (actL A)]) ++ errPs b o wrT A.2.1 (writeM y0 A.2.1 A.2.2.1).1 qe) := st3'
          clear st3'
          obtain ⟨wfs, -, -, -, -, wc4⟩ := write_fs (x := y0) hy0 (n := A.2.1) (d := A.2.2.1) (by unfold maxLen; omega)
          refine ⟨fun q hq => by
            rcases hq with rfl | rfl
            · have h1 := st3.blk 2 rfl
              have h2 := stg2.blk 2 rfl
              unfold Blk at h1 h2
              rw [h1, h2]
            · have h1 := st3.blk 18 rfl
              have h2 := stg2.blk 18 rfl
              unfold Blk at h1 h2
              rw [h1, h2], ?_⟩
          (conv => whnf)
          (conv => whnf); refine VDraw.heldZ (fun q => q = p8 ∨ q = pa) [] (sq [0,1,2,4,5,6,7,8,9,10] (.f 3 (.f 11 (sq [12] .e)))) rfl (by kernel_rfl) ?_
          (conv => whnf); refine VC.fa fl46_1 ?_
          (conv => whnf); refine ld1 (v := .string A.2.1) ct9 (by rw [(st3.blk 18 rfl).cell]; rfl) (.inr rfl) ?_
          (conv => whnf); refine ixa ar42 (by decide) (by decide) ?_
          (conv => whnf); refine ld1 (v := .pointer (some ⟨n0.sd, 0, none⟩)) ct28 (by rw [(st3.blk 3 rfl).cell]; rfl) (.inl rfl) ?_
          (conv => whnf); refine VC.fa fl46_1 ?_
          (conv => whnf); refine ld1 (v := .string A.2.1) ct9 (by rw [(st3.blk 18 rfl).cell]; rfl) (.inr rfl) ?_
          (conv => whnf); refine VC.fa fl46_2 ?_
          (conv => whnf); refine ld1 (v := .string A.2.2.1) ct9 (by rw [(st3.blk 18 rfl).cell]; rfl) (.inr rfl) ?_
          (conv => whnf); refine pures (cause_c sen st3 (by decide) hzn wc4) fun G5 hg5 => ?_
          have st5 : St H G5 (allP (keptP SK ka kc L) (wantP SW wa wc L) p7 p8 n0 n1 (write1 y0 A.2.1 A.2.2.1) y0 y1 y1 ++ [pB 46 pa (actL A)]) := (st3.call hg5).left
          refine ⟨fun q hq => by
            rcases hq with rfl | rfl
            · have h1 := st5.blk 3 rfl
              have h2 := st3.blk 3 rfl
              unfold Blk at h1 h2
              rw [h1, h2]
            · have h1 := st5.blk 18 rfl
              have h2 := st3.blk 18 rfl
              unfold Blk at h1 h2
              rw [h1, h2], ?_⟩
          (conv => whnf); refine VCall.mk (dwrite_p (j := 8) (sd := n0.sd) (fa := n0.fa) (fc := n0.fc) (ba := n0.ba) (bc := n0.bc) (x := y0) (name := A.2.1) (data := A.2.2.1) st5 ⟨rfl, rfl, rfl⟩ (by omega) hy0 (by unfold maxLen; omega) (by unfold maxLen; omega)) ?_
          rintro _ G6 ⟨rfl, fa', fc', st6'⟩
          obtain ⟨n', hn'⟩ : ∃ n' : SyN, n' = ⟨n0.s, n0.fm, n0.rm, n0.wm, n0.sd, fa', fc', n0.ba, n0.bc⟩ := ⟨_, rfl⟩
          have st6 : St H G6 (allP (keptP SK ka kc L) (wantP SW wa wc L) p7 p8 n' n1 (write1 y0 A.2.1 A.2.2.1) (write1 y0 A.2.1 A.2.2.1) y1 y1 ++ [pB 46 pa (actL A)]) := by rw [hn']; exact st6'
          have hs' : n'.s = n0.s ∧ n'.sd = n0.sd := by rw [hn']; exact ⟨rfl, rfl⟩
          clear st6' hn'
          refine ⟨fun q hq => by
            rcases hq with rfl | rfl
            · have h1 := st6.blk 3 rfl
              have h2 := st3.blk 3 rfl
              rw [hs'.2] at h1
              unfold Blk at h1 h2
              rw [h1, h2]
            · have h1 := st6.blk 18 rfl
              have h2 := st3.blk 18 rfl
              unfold Blk at h1 h2
              rw [h1, h2], ?_⟩
          have d7 : (((writeM y0 A.2.1 A.2.2.1).1 : Int) != ((writeM y0 A.2.1 A.2.2.1).1 : Int)) = false := by simp
          clear st3 st5 stg2
          (conv => whnf); rw [d7]
          (conv => whnf)
          refine VLoop.mk [22] (fun j : Nat => [.int .i64 (j : Int)]) (fun j G => j ≤ L.length ∧ St H G (allP (keptP SK ka kc L) (wantP SW wa wc L) p7 p8 n' n1 (write1 y0 A.2.1 A.2.2.1) (write1 y0 A.2.1 A.2.2.1) y1 y1 ++ [pB 46 pa (actL A)])) (fun j _ => L.length - j) ?_ ?_
          · (conv => whnf)
            exact ⟨0, rfl, Nat.zero_le _, st6⟩
          · clear st6
            rintro j G junk8 ⟨hj, stc⟩
            (conv => whnf); refine VIte.mk (fun hz => ?_) (fun hz => ?_) <;> simp only [decide_eq_true_eq, decide_eq_false_iff_not] at hz
            · have hjl : j < L.length := by omega
              obtain ⟨R, hR⟩ : ∃ R, L[j]? = some R := ⟨L[j], List.getElem?_eq_getElem hjl⟩
              (conv => whnf); refine VDraw.quiet (Old G) rfl (by kernel_rfl) ?_
              (conv => whnf); refine ixO sl43 stc 0 rfl hR rfl ?_
              intro b8 o8 c8 hb8 hc8 hr8
              obtain ⟨ra, rc, rfl, hrow⟩ := hr8
              (conv => whnf); refine ld1 (v := .slice ra R.length rc) ct31 (hc8 0 _ rfl) hb8 ?_
              (conv => whnf); refine ixO sl44 stc 1 rfl hR rfl ?_
              intro b9 o9 c9 hb9 hc9 hr9
              obtain ⟨ra2, rc2, rfl, hrow2⟩ := hr9
              (conv => whnf); refine ld1 (v := .slice ra2 R.length rc2) ct52 (hc9 0 _ rfl) hb9 ?_
              (conv => whnf); refine pureq (fun H' h' => same_p (hrow.frame h') (hrow2.frame h') (fun k hk => old_lt h' hk)) ?_
              (conv => whnf)
              intro G9 hg9
              (conv => whnf); rw [w64 (x := (j : Int) + 1) (by omega) (by omega)]
              exact ⟨rfl, j + 1, rfl, ⟨by omega, stc.call hg9⟩, by omega⟩
            · (conv => whnf); rw [w64 (x := (i : Int) + 1) (by omega) (by omega)]
              exact ⟨rfl, (i + 1, ka, kc, wa, wc, L.length), rfl, ⟨by omega, L, SK, SW, n', n1, (write1 y0 A.2.1 A.2.2.1), y1, rfl, by omega, wfs, hy1, by show y0.reads + (y0.writes + 1) ≤ i + 1; omega, by omega, stc.left⟩, by show acts.length - (i + 1) < acts.length - i; omega⟩
        · skip
          (conv => whnf)
          (conv => whnf); try (refine VSeq.run ?_)
          (conv => whnf); try (refine VSeq.run ?_)
          (conv => whnf); try (refine VSeq.run ?_)
          (conv => whnf); refine ixa ar41 (by decide) (by decide) ?_
          (conv => whnf); refine ld1 (v := .pointer (some ⟨n0.s, 0, none⟩)) ct27 (by rw [(stg2.blk 2 rfl).cell]; rfl) trivial ?_
          (conv => whnf); refine VCall.mk (list_p (i := 4) (s := n0.s) (fm := n0.fm) (rm := n0.rm) (wm := n0.wm) (x := y0) stg2 ⟨rfl, rfl, rfl, rfl⟩ hy0) ?_
          rintro _ G3 ⟨al, cl, rfl, st3⟩
          (conv => whnf); refine ixa ar41 (by decide) (by decide) ?_
          (conv => whnf); refine ld1 (v := .pointer (some ⟨n0.s, 0, none⟩)) ct27 (by rw [(st3.blk 2 rfl).cell]; rfl) trivial ?_
          (conv => whnf); refine VCall.mk (list_p (i := 4) (s := n0.s) (fm := n0.fm) (rm := n0.rm) (wm := n0.wm) (x := y0) st3 ⟨rfl, rfl, rfl, rfl⟩ hy0) ?_
          rintro _ G4 ⟨am, cm, rfl, st4'⟩
          have st4 : St H G4 ((allP (keptP SK ka kc L) (wantP SW wa wc L) p7 p8 n0 n1 y0 y0 y1 y1 ++ [pB 46 pa (actL A)]) ++ [pS tFile 33 al y0.files.length cl y0.files, pS tFile 33 am y0.files.length cm y0.files]) := by rw [List.append_assoc] at st4'; exact st4'
          clear st3 st4' stg2
          (conv => whnf); refine ixa ar42 (by decide) (by decide) ?_
          (conv => whnf); refine ld1 (v := .pointer (some ⟨n0.sd, 0, none⟩)) ct28 (by rw [(st4.blk 3 rfl).cell]; rfl) trivial ?_
          (conv => whnf); refine VC.fa fl55_0 ?_
          (conv => whnf); refine ld1 (v := .slice n0.fa y0.files.length n0.fc) ct52 (by rw [(st4.blk 8 rfl).cell]; rfl) trivial ?_
          (conv => whnf); refine pures (same_p (st4.view 19 rfl) (st4.view 9 rfl) (fun k hk => hk)) fun G5 hg5 => ?_
          have st5 := st4.call hg5
          (conv => whnf); refine ixa ar42 (by decide) (by decide) ?_
          (conv => whnf); refine ld1 (v := .pointer (some ⟨n0.sd, 0, none⟩)) ct28 (by rw [(st5.blk 3 rfl).cell]; rfl) trivial ?_
          (conv => whnf); refine VC.fa fl55_0 ?_
          (conv => whnf); refine ld1 (v := .slice n0.fa y0.files.length n0.fc) ct52 (by rw [(st5.blk 8 rfl).cell]; rfl) trivial ?_
          (conv => whnf); refine pures (same_p (st5.view 20 rfl) (st5.view 9 rfl) (fun k hk => hk)) fun G6 hg6 => ?_
          have st6 := st5.call hg6
          clear st4 st5
          (conv => whnf)
          refine VLoop.mk [21] (fun j : Nat => [.int .i64 (j : Int)]) (fun j G => j ≤ y0.files.length ∧ ∃ FS, FS.length = y0.files.length ∧ St H G ((allP (keptP SK ka kc L) (wantP SW wa wc L) p7 p8 n0 n1 y0 y0 y1 y1 ++ [pB 46 pa (actL A)]) ++ [pS tFile 33 al y0.files.length cl FS, pS tFile 33 am y0.files.length cm y0.files])) (fun j _ => y0.files.length - j) ?_ ?_
          · (conv => whnf)
            exact ⟨0, rfl, Nat.zero_le _, y0.files, rfl, st6⟩
          · clear st6
            rintro j G junk5 ⟨hj, FS, hFS, sts⟩
            have hy64 := hy0.len
            (conv => whnf); refine VIte.mk (fun hz => ?_) (fun hz => ?_) <;> simp only [decide_eq_true_eq, decide_eq_false_iff_not] at hz
            · have hjl : j < FS.length := by omega
              obtain ⟨b5, cap, l5, cs5, e, -⟩ := (sts.at_ 19 rfl).1.place hjl
              injection e with e1 e2 e3
              subst e1; subst e3
              (conv => whnf); refine vbuildS Tryd.underlying33 rfl _ rfl (fileL (spoT, ⟨#[]⟩)) rfl ?_
              (conv => whnf); refine ixE sl31 sts 19 rfl hjl rfl ?_
              (conv => whnf); refine stNO (cs := fileL (spoT, ⟨#[]⟩)) (x := (spoT, ⟨#[]⟩)) sts 19 rfl rfl rfl hjl rfl (fun H' _ => ⟨[.string spoT], [.string ⟨#[]⟩], rfl, ⟨rfl, by decide⟩, ⟨rfl, by decide⟩⟩) fun G2 sts2 => ?_
              (conv => whnf); rw [w64 (x := (j : Int) + 1) (by omega) (by omega)]
              exact ⟨rfl, j + 1, rfl, ⟨by omega, FS.set j (spoT, ⟨#[]⟩), by rw [List.length_set]; exact hFS, sts2⟩, by omega⟩
            · have sk0 : St H G (keptP SK ka kc L :: pS tFile 33 am y0.files.length cm y0.files :: ((allP (keptP SK ka kc L) (wantP SW wa wc L) p7 p8 n0 n1 y0 y0 y1 y1 ++ [pB 46 pa (actL A)]).tail)) := sts.pick [0, 20, 1, 2, 3, 4, 5, 6, 7, 8, 9, 10, 11, 12, 13, 14, 15, 16, 17, 18] (by decide)
              (conv => whnf); refine vbuild1 sl43 [.slice am y0.files.length cm] rfl rfl (by decide) (by decide) ?_
              intro q6 G6 hq6 hs6 hb6 ha6
              have hrow := row_rep (S := SK) sts (i := 20) rfl (ha6.mono fun k hk => by have : k < G.size := hk; omega)
              have sk1 := (StB.absorb (T := tFile) sk0).skip hq6 ha6
              clear sk0 sts
              (conv => whnf); refine appNO (T := tFile) sk1 sl43 (hb6.cells fun j v hv => by rw [Nat.zero_add]; exact hv) hrow rfl (by intro u hu; cases List.mem_singleton.1 hu; rfl) (by omega) (by decide) fun ka' kc' G7 sk2' => ?_
              have el : L.length + 1 = (L ++ [y0.files]).length := by simp
              rw [el] at sk2' ⊢
              obtain ⟨SK', hSK'⟩ : ∃ SK' : Nat → Prop, SK' = (fun k => SK k ∨ slB (.slice am y0.files.length cm) k) := ⟨_, rfl⟩
              rw [← hSK'] at sk2'
              have sk2 : St H G7 (allP (keptP SK' ka' kc' (L ++ [y0.files])) (wantP SW wa wc L) p7 p8 n0 n1 y0 y0 y1 y1 ++ [pB 46 pa (actL A)]) := sk2'
              clear sk1 sk2' hrow
              (conv => whnf); refine ixa ar42 (by decide) (by decide) ?_
              (conv => whnf); refine ld1 (v := .pointer (some ⟨n0.sd, 0, none⟩)) ct28 (by rw [(sk2.blk 3 rfl).cell]; rfl) trivial ?_
              (conv => whnf); refine VC.fa fl55_0 ?_
              (conv => whnf); refine ld1 (v := .slice n0.fa y0.files.length n0.fc) ct52 (by rw [(sk2.blk 8 rfl).cell]; rfl) trivial ?_
              (conv => whnf); refine VCall.mk (copied_p sk2 (i := 9) rfl (by omega)) ?_
              rintro _ G8 ⟨a9, c9, rfl, sk3⟩
              have sk4 : St H G8 (wantP SW wa wc L :: pS tFile 65 a9 y0.files.length c9 y0.files :: (keptP SK' ka' kc' (L ++ [y0.files])) :: ((allP (keptP SK' ka' kc' (L ++ [y0.files])) (wantP SW wa wc L) p7 p8 n0 n1 y0 y0 y1 y1 ++ [pB 46 pa (actL A)]).tail.tail)) := sk3.pick [1, 19, 0, 2, 3, 4, 5, 6, 7, 8, 9, 10, 11, 12, 13, 14, 15, 16, 17, 18] (by decide)
              (conv => whnf); refine vbuild1 sl44 [.slice a9 y0.files.length c9] rfl rfl (by decide) (by decide) ?_
              intro q9 G9 hq9 hs9 hb9 ha9
              have hrow9 := row_rep (S := SW) sk3 (i := 19) rfl (ha9.mono fun k hk => by have : k < G8.size := hk; omega)
              have sk5 := (StB.absorb (T := tFile) sk4).skip hq9 ha9
              clear sk2 sk3 sk4
              (conv => whnf); refine appNO (T := tFile) sk5 sl44 (hb9.cells fun j v hv => by rw [Nat.zero_add]; exact hv) hrow9 rfl (by intro u hu; cases List.mem_singleton.1 hu; rfl) (by omega) (by decide) fun wa' wc' G10 sk6 => ?_
              rw [el] at sk6 ⊢
              obtain ⟨SW', hSW'⟩ : ∃ SW' : Nat → Prop, SW' = (fun k => SW k ∨ slB (.slice a9 y0.files.length c9) k) := ⟨_, rfl⟩
              rw [← hSW'] at sk6
              have sk7 : St H G10 (allP (keptP SK' ka' kc' (L ++ [y0.files])) (wantP SW' wa' wc' (L ++ [y0.files])) p7 p8 n0 n1 y0 y0 y1 y1 ++ [pB 46 pa (actL A)]) := sk6.pick [1, 0, 2, 3, 4, 5, 6, 7, 8, 9, 10, 11, 12, 13, 14, 15, 16, 17, 18] (by decide)
              clear sk5 sk6 hrow9 hSK' hSW'
              have hLi2 : (L ++ [y0.files]).length ≤ i + 1 := by rw [← el]; omega
              clear el
              generalize L ++ [y0.files] = L2 at sk7 hLi2 ⊢
              (conv => whnf)
              refine VLoop.mk [22] (fun j : Nat => [.int .i64 (j : Int)]) (fun j G => j ≤ L2.length ∧ St H G (allP (keptP SK' ka' kc' L2) (wantP SW' wa' wc' L2) p7 p8 n0 n1 y0 y0 y1 y1 ++ [pB 46 pa (actL A)])) (fun j _ => L2.length - j) ?_ ?_
              · (conv => whnf)
                exact ⟨0, rfl, Nat.zero_le _, sk7⟩
              · clear sk7
                rintro j G junk8 ⟨hj, stc⟩
                (conv => whnf); refine VIte.mk (fun hz => ?_) (fun hz => ?_) <;> simp only [decide_eq_true_eq, decide_eq_false_iff_not] at hz
                · have hjl : j < L2.length := by omega
                  obtain ⟨R, hR⟩ : ∃ R, L2[j]? = some R := ⟨L2[j], List.getElem?_eq_getElem hjl⟩
                  (conv => whnf); refine VDraw.quiet (Old G) rfl (by kernel_rfl) ?_
                  (conv => whnf); refine ixO sl43 stc 0 rfl hR rfl ?_
                  intro b8 o8 c8 hb8 hc8 hr8
                  obtain ⟨ra, rc, rfl, hrow⟩ := hr8
                  (conv => whnf); refine ld1 (v := .slice ra R.length rc) ct31 (hc8 0 _ rfl) hb8 ?_
                  (conv => whnf); refine ixO sl44 stc 1 rfl hR rfl ?_
                  intro b9 o9 c9 hb9 hc9 hr9
                  obtain ⟨ra2, rc2, rfl, hrow2⟩ := hr9
                  (conv => whnf); refine ld1 (v := .slice ra2 R.length rc2) ct52 (hc9 0 _ rfl) hb9 ?_
                  (conv => whnf); refine pureq (fun H' h' => same_p (hrow.frame h') (hrow2.frame h') (fun k hk => old_lt h' hk)) ?_
                  (conv => whnf)
                  intro G9 hg9
                  (conv => whnf); rw [w64 (x := (j : Int) + 1) (by omega) (by omega)]
                  exact ⟨rfl, j + 1, rfl, ⟨by omega, stc.call hg9⟩, by omega⟩
                · (conv => whnf); rw [w64 (x := (i : Int) + 1) (by omega) (by omega)]
                  exact ⟨rfl, (i + 1, ka', kc', wa', wc', L2.length), rfl, ⟨by omega, L2, SK', SW', n0, n1, y0, y1, rfl, hLi2, hy0, hy1, by omega, by omega, stc.left⟩, by show acts.length - (i + 1) < acts.length - i; omega⟩
    · (conv => whnf); refine VDraw.heldG (fun q => q = p7 ∨ q = p8 ∨ q = n0.sd ∨ q = n1.sd) [20] (sq [0,1,3,4,5,6,7] (.f 2 (.f 8 (sq [9,10,11,13,14,15,16,17] (.f 12 (.f 18 (sq [19] (.f 20 .e)))))))) rfl (by kernel_rfl) ?_
      (conv => whnf); refine ixa ar41 (by decide) (by decide) ?_
      (conv => whnf); refine ld1 (v := .pointer (some ⟨n0.s, 0, none⟩)) ct27 (by rw [(stg.blk 2 rfl).cell]; rfl) (.inl rfl) ?_
      (conv => whnf); refine ixa ar42 (by decide) (by decide) ?_
      (conv => whnf); refine ld1 (v := .pointer (some ⟨n0.sd, 0, none⟩)) ct28 (by rw [(stg.blk 3 rfl).cell]; rfl) (.inr (.inl rfl)) ?_
      (conv => whnf); refine VC.fa fl55_0 ?_
      (conv => whnf); refine ld1 (v := .slice n0.fa y0.files.length n0.fc) ct52 (by rw [(stg.blk 8 rfl).cell]; rfl) (.inr (.inr (.inl rfl))) ?_
      (conv => whnf); refine VCall.mk (list_p (i := 4) (s := n0.s) (fm := n0.fm) (rm := n0.rm) (wm := n0.wm) (x := y0) stg ⟨rfl, rfl, rfl, rfl⟩ hy0) ?_
      rintro _ G11 ⟨al, cl, rfl, e11⟩
      refine ⟨fun q hq => by
        rcases hq with rfl | rfl | rfl | rfl
        · have h1 := e11.blk 2 rfl
          have h2 := stg.blk 2 rfl
          unfold Blk at h1 h2
          rw [h1, h2]
        · have h1 := e11.blk 3 rfl
          have h2 := stg.blk 3 rfl
          unfold Blk at h1 h2
          rw [h1, h2]
        · have h1 := e11.blk 8 rfl
          have h2 := stg.blk 8 rfl
          unfold Blk at h1 h2
          rw [h1, h2]
        · have h1 := e11.blk 15 rfl
          have h2 := stg.blk 15 rfl
          unfold Blk at h1 h2
          rw [h1, h2], ?_⟩
      (conv => whnf); refine pures (same_p (e11.view 18 rfl) (e11.view 9 rfl) (fun k hk => hk)) fun G12 hg12 => ?_
      have e12 := e11.call hg12
      refine ⟨fun q hq => by
        rcases hq with rfl | rfl | rfl | rfl
        · have h1 := e12.blk 2 rfl
          have h2 := stg.blk 2 rfl
          unfold Blk at h1 h2
          rw [h1, h2]
        · have h1 := e12.blk 3 rfl
          have h2 := stg.blk 3 rfl
          unfold Blk at h1 h2
          rw [h1, h2]
        · have h1 := e12.blk 8 rfl
          have h2 := stg.blk 8 rfl
          unfold Blk at h1 h2
          rw [h1, h2]
        · have h1 := e12.blk 15 rfl
          have h2 := stg.blk 15 rfl
          unfold Blk at h1 h2
          rw [h1, h2], ?_⟩
      (conv => whnf); refine ixa ar41 (by decide) (by decide) ?_
      (conv => whnf); refine ld1 (v := .pointer (some ⟨n1.s, 0, none⟩)) ct27 (by rw [(e12.blk 2 rfl).cell]; rfl) (.inl rfl) ?_
      (conv => whnf); refine ixa ar42 (by decide) (by decide) ?_
      (conv => whnf); refine ld1 (v := .pointer (some ⟨n1.sd, 0, none⟩)) ct28 (by rw [(e12.blk 3 rfl).cell]; rfl) (.inr (.inl rfl)) ?_
      (conv => whnf); refine VC.fa fl55_0 ?_
      (conv => whnf); refine ld1 (v := .slice n1.fa y1.files.length n1.fc) ct52 (by rw [(e12.blk 15 rfl).cell]; rfl) (.inr (.inr (.inr rfl))) ?_
      (conv => whnf); refine VCall.mk (list_p (i := 11) (s := n1.s) (fm := n1.fm) (rm := n1.rm) (wm := n1.wm) (x := y1) e12 ⟨rfl, rfl, rfl, rfl⟩ hy1) ?_
      rintro _ G13 ⟨am, cm, rfl, e13⟩
      refine ⟨fun q hq => by
        rcases hq with rfl | rfl | rfl | rfl
        · have h1 := e13.blk 2 rfl
          have h2 := stg.blk 2 rfl
          unfold Blk at h1 h2
          rw [h1, h2]
        · have h1 := e13.blk 3 rfl
          have h2 := stg.blk 3 rfl
          unfold Blk at h1 h2
          rw [h1, h2]
        · have h1 := e13.blk 8 rfl
          have h2 := stg.blk 8 rfl
          unfold Blk at h1 h2
          rw [h1, h2]
        · have h1 := e13.blk 15 rfl
          have h2 := stg.blk 15 rfl
          unfold Blk at h1 h2
          rw [h1, h2], ?_⟩
      (conv => whnf); refine pures (same_p (e13.view 19 rfl) (e13.view 16 rfl) (fun k hk => hk)) fun G14 hg14 => ?_
      have e14 := e13.call hg14
      refine ⟨fun q hq => by
        rcases hq with rfl | rfl | rfl | rfl
        · have h1 := e14.blk 2 rfl
          have h2 := stg.blk 2 rfl
          unfold Blk at h1 h2
          rw [h1, h2]
        · have h1 := e14.blk 3 rfl
          have h2 := stg.blk 3 rfl
          unfold Blk at h1 h2
          rw [h1, h2]
        · have h1 := e14.blk 8 rfl
          have h2 := stg.blk 8 rfl
          unfold Blk at h1 h2
          rw [h1, h2]
        · have h1 := e14.blk 15 rfl
          have h2 := stg.blk 15 rfl
          unfold Blk at h1 h2
          rw [h1, h2], ?_⟩
      (conv => whnf)
      exact ⟨rfl, e14.old⟩
end Go.Proofs.YtfdlhakfmbdamaaDoor
