/- Parts of the proof: PDet2, PDTb, PDBk, PBits, PSound, PMerge, PWake, PNew, PAuto, PLaw5, PCellO -/
import Derived.Test.YthomdogheamfpaaDoorKS3
import Derived.Test.YthomdogheamfpaaDoorKS2
import Derived.Test.YthomdogheamfpaaDoorKS1
/- dfa.ready: an automaton's ways by the state that they leave: the walk. -/
set_option linter.unusedVariables false
set_option linter.unusedSimpArgs false
set_option maxRecDepth 100000
namespace Go.VC
section
variable {α : Type} {T : Ty α} {e te : TypeId} {nb : Nat} {vs : List Value} {xs : List (List α)} {B : Nat → Prop} {H0 H H1 : Heap} {ps : List Pc}
/-- append of a row of a table and one element of any size. -/
theorem appTW {P : Program} {tt ty q by_ t cap2 : Nat} {z : Value} {a : Option Addr} {n cap : Nat} {ds : List Value} {x : List α} {y : α} {K : Value → Heap → Prop} (st : StB B H0 H ps) (i : Nat) (ht : SlT P tt e T.size by_ z) (hp : ps[i]? = some (pT T e te nb vs xs)) (hv : vs[t]? = some (.slice a n cap)) (hx : xs[t]? = some x)
    (hd : Cells H q 0 ds) (hy : T.rep none_ H ds y) (hw : ds.all (·.oneCell') = true) (h63 : x.length + 1 ≤ 4194304) (hby : by_ ≤ 1024)
    (k : ∀ a' cap' H1, Mid T B H0 H H1 ps i e te nb vs xs t (.slice a' (x.length + 1) cap') (x ++ [y]) → Agr (fun k => k < H.size ∧ ¬ slB (.slice a n cap) k) H H1 → K (.slice a' (x.length + 1) cap') H1) : VEff P (Builtin.append_ #[tt, tt] ty [.slice a n cap, .slice (some ⟨q, 0, none⟩) 1 cap2].toArray) H K := by
  have tab := st.tab i hp
  have hown := tab.own t _ _ hv hx
  refine vappendO (T := T) (S := none_) (lo := nb + 1) (ys := [y]) ht hown tab.blk.lt (fun k hk => hk.elim) hd (Ty.reps_one hy) rfl (fun u hu => List.all_eq_true.1 hw u hu) (by unfold maxLen; simp only [List.length_singleton]; omega) (by have := Nat.mul_le_mul h63 hby; simp only [List.length_singleton]; omega) ?_
  intro v' H1 hown1 hagr hsz hfr
  obtain ⟨a', cap', rfl⟩ := hown1.hull
  rw [List.length_append, List.length_singleton] at hown1 hfr ⊢
  exact k a' cap' H1 ⟨st, hp, hown1, ⟨_, hv, hagr, hfr⟩, hsz⟩ hagr
/-- A row lies in none of the blocks of its table. -/
theorem StB.rowNe (st : StB B H0 H ps) (i : Nat) (hp : ps[i]? = some (pT T e te nb vs xs)) {t : Nat} {v : Value} {x : List α} (hv : vs[t]? = some v) (hx : xs[t]? = some x) : ¬ slB v nb := fun h => by
  have hown := (st.tab i hp).own t _ _ hv hx
  have := (hown.lt h).1
  omega
end
end Go.VC
namespace Go.Proofs.YthomdogheamfpaaDoor
open Go.VC
/-! ### grouping -/
section
variable {β : Type}
def grp (n : Nat) (key : EdM → Option (Nat × β)) (l : List EdM) : List (List β) := (List.range n).map fun q => l.filterMap fun e => (key e).bind fun p => if p.1 = q then some p.2 else none
theorem grp_len (n : Nat) (key : EdM → Option (Nat × β)) (l : List EdM) : (grp n key l).length = n := by simp [grp]
theorem grp_get {n q : Nat} (key : EdM → Option (Nat × β)) (l : List EdM) (h : q < n) : (grp n key l)[q]? = some (l.filterMap fun e => (key e).bind fun p => if p.1 = q then some p.2 else none) := by
  unfold grp
  rw [List.getElem?_map, List.getElem?_range h]
  rfl
theorem grp_nil (n : Nat) (key : EdM → Option (Nat × β)) : grp n key [] = List.replicate n [] := by
  unfold grp
  simp [List.map_const']
theorem grp_none {n : Nat} {key : EdM → Option (Nat × β)} {l : List EdM} {e : EdM} (h : key e = none) : grp n key (l ++ [e]) = grp n key l := by
  unfold grp
  refine List.map_congr_left fun q _ => ?_
  rw [List.filterMap_append]
  simp [h]
theorem grp_some {n q : Nat} {key : EdM → Option (Nat × β)} {l : List EdM} {e : EdM} {y : β} {row : List β} (h : key e = some (q, y)) (hr : (grp n key l)[q]? = some row) : grp n key (l ++ [e]) = (grp n key l).set q (row ++ [y]) := by
  have hq : q < n := by have := (List.getElem?_eq_some_iff.1 hr).1; rwa [grp_len] at this
  rw [grp_get key l hq] at hr
  injection hr with hr
  apply List.ext_getElem?
  intro j
  by_cases hj : j < n
  · rw [grp_get key _ hj, List.filterMap_append, List.getElem?_set, grp_len, grp_get key _ hj]
    by_cases hjq : q = j
    · subst hjq
      rw [if_pos rfl, if_pos hj, ← hr]
      simp [h]
    · rw [if_neg hjq]
      simp [h, hjq]
  · rw [List.getElem?_eq_none (by rw [grp_len]; omega), List.getElem?_eq_none (by rw [List.length_set, grp_len]; omega)]
end
def nstA (a : NfM) : Nat := if 0 ≤ a.st ∧ a.st ≤ 65536 then a.st.toNat else 0
theorem nstA_le (a : NfM) : nstA a ≤ 65536 := by unfold nstA; split <;> omega
theorem has_n (a : NfM) (q : Int) : a.has q = (decide (0 ≤ q) && decide (q < (nstA a : Int))) := by
  rw [Bool.eq_iff_iff, NfM.has_iff]
  unfold nstA
  simp only [Bool.and_eq_true, decide_eq_true_eq]
  split <;> omega
def okE (a : NfM) (e : EdM) : Bool := a.has e.fr && a.has e.to
def keyS (a : NfM) (e : EdM) : Option (Nat × Int) := if okE a e && e.sil then some (e.fr.toNat, e.to) else none
def keyT (a : NfM) (e : EdM) : Option (Nat × EdM) := if okE a e && !e.sil then some (e.fr.toNat, e) else none
def silT (a : NfM) : List (List Int) := grp (nstA a) (keyS a) a.edges
def takT (a : NfM) : List (List EdM) := grp (nstA a) (keyT a) a.edges
abbrev tNt : TypeId := 132
def ntL (sv tv : Value) (n : Nat) : List Value := [sv, tv, .int .i64 (n : Int)]
/-- A net made ready, to be read. -/
def NetV (S : Nat → Prop) (H : Heap) (v : Value) (a : NfM) : Prop := ∃ nb sa sc ta tc, v = .pointer (some ⟨nb, 0, none⟩) ∧ S nb ∧ Cells H nb 0 (ntL (.slice sa (nstA a) sc) (.slice ta (nstA a) tc) (nstA a)) ∧ SlD (tSl tIk) S H sa sc (silT a) ∧ SlD (tSl tEd) S H ta tc (takT a)
theorem NetV.frame {S : Nat → Prop} {H H' : Heap} {v : Value} {a : NfM} (h : NetV S H v a) (k : Agr S H H') : NetV S H' v a := by
  obtain ⟨nb, sa, sc, ta, tc, h1, h2, h3, h4, h5⟩ := h
  exact ⟨nb, sa, sc, ta, tc, h1, h2, h3.eq (k nb h2), h4.frame k, h5.frame k⟩
theorem NetV.mono {S S' : Nat → Prop} {H : Heap} {v : Value} {a : NfM} (h : NetV S H v a) (k : ∀ i, S i → S' i) : NetV S' H v a := by
  obtain ⟨nb, sa, sc, ta, tc, h1, h2, h3, h4, h5⟩ := h
  exact ⟨nb, sa, sc, ta, tc, h1, k _ h2, h3, h4.mono k, h5.mono k⟩
theorem nhas_p {H : Heap} {nb : Nat} {sv tv : Value} {a : NfM} {q : Int} (h : Cells H nb 0 (ntL sv tv (nstA a))) : Pure Tryd.prog 68 #[.pointer (some ⟨nb, 0, none⟩), .int .i64 q] H (.bool (a.has q)) := by
  refine FnOk.of_vc Tryd.func68 rfl (Tryd.call68 _) ?_
  by_cases h0 : 0 ≤ q
  · have d0 : decide ((0 : Int) ≤ q) = true := decide_eq_true h0
    (conv => whnf); rw [d0]
    (conv => whnf); refine fa fl132_2 ?_
    (conv => whnf); refine ld1 (v := .int .i64 (nstA a : Int)) ct3 (h 2 _ rfl) trivial ?_
    (conv => whnf)
    exact ⟨by rw [has_n, d0, Bool.true_and], Agr.refl _ _⟩
  · have d0 : decide ((0 : Int) ≤ q) = false := decide_eq_false h0
    (conv => whnf); rw [d0]
    (conv => whnf)
    exact ⟨by rw [has_n, d0, Bool.false_and], Agr.refl _ _⟩
-- READY
theorem nt_z : (Tryd.prog.info? 132).bind (·.zero) = some (.agg #[.slice none 0 0, .slice none 0 0, .int .i64 0]) := rfl
set_option maxHeartbeats 16000000 in
theorem ready_c {S : Nat → Prop} {H : Heap} {v : Value} {a : NfM} (hS : ∀ k, S k → k < H.size) (h : NfV S H v a) :
    FnOk Tryd.prog 67 #[v] H fun r H' => Agr (Old H) H H' ∧ NetV (Old H') H' r a := by
  have hr := h.1
  have hl := h.2.1
  refine FnOk.of_vc Tryd.func67 rfl (Tryd.call67 _) ?_
  (conv => whnf); refine nf_box h fun ea ec he0 h1 => ?_
  subst he0
  intro p H1 hp hs1 hb1 ha1
  have st1 := (St.nil H).box hp hs1 hb1 ha1
  (conv => whnf); refine vbuildS Tryd.underlying132 rfl _ nt_z (ntL (.slice none 0 0) (.slice none 0 0) 0) rfl ?_
  (conv => whnf); refine vbox (ntL (.slice none 0 0) (.slice none 0 0) 0) rfl ?_
  intro nb H2 hnb hs2 hb2 ha2
  have st2 := st1.box hnb hs2 hb2 ha2
  have hnle := nstA_le a
  obtain ⟨n, hn⟩ : ∃ n, n = nstA a := ⟨_, rfl⟩
  rw [← hn] at hnle
  have hp2 := st2.blk 0 rfl
  have cond : ∀ c : Bool, c = (decide ((0 : Int) ≤ a.st) && decide (a.st ≤ 65536)) → (c = true → (n : Int) = a.st) ∧ (c = false → n = 0) := by
    intro c hc
    rw [hc, hn]
    unfold nstA
    constructor
    · intro h
      simp only [Bool.and_eq_true, decide_eq_true_eq] at h
      rw [if_pos h]; omega
    · intro h
      rw [if_neg fun h2 => by simp [h2.1, h2.2] at h]
  (conv => whnf)
  refine VSeq.cut (α := Unit) [] (fun _ => []) (fun _ H3 => St H H3 [pB 58 p (nfL a (.slice ea a.edges.length ec)), pB tNt nb (ntL (.slice none 0 0) (.slice none 0 0) n)]) ?_ ?_
  · (conv => whnf); refine fa fl58_0 ?_
    (conv => whnf); refine ld1 (v := .int .i64 a.st) ct3 (by rw [hp2.cell]; rfl) trivial ?_
    by_cases h0 : 0 ≤ a.st
    · have d0 : decide ((0 : Int) ≤ a.st) = true := decide_eq_true h0
      (conv => whnf); rw [d0]
      (conv => whnf); refine fa fl58_0 ?_
      (conv => whnf); refine ld1 (v := .int .i64 a.st) ct3 (by rw [hp2.cell]; rfl) trivial ?_
      by_cases h6 : a.st ≤ 65536
      · have d6 : decide (a.st ≤ (65536 : Int)) = true := decide_eq_true h6
        have hns : (n : Int) = a.st := (cond true (by rw [d0, d6]; rfl)).1 rfl
        (conv => whnf); rw [d6]
        (conv => whnf); refine fa fl58_0 ?_
        (conv => whnf); refine ld1 (v := .int .i64 a.st) ct3 (by rw [hp2.cell]; rfl) trivial ?_
        (conv => whnf); refine fa fl132_2 ?_
        (conv => whnf); refine st1B st2 1 ct3 rfl (show 2 < 3 by decide) rfl fun H3 st3 => ?_
        refine ⟨rfl, (), rfl, ?_⟩
        unfold ntL
        rw [hns]
        exact st3
      · have d6 : decide (a.st ≤ (65536 : Int)) = false := decide_eq_false h6
        obtain rfl : n = 0 := (cond false (by rw [d0, d6]; rfl)).2 rfl
        (conv => whnf); rw [d6]
        (conv => whnf)
        exact ⟨rfl, (), rfl, st2⟩
    · have d0 : decide ((0 : Int) ≤ a.st) = false := decide_eq_false h0
      obtain rfl : n = 0 := (cond false (by rw [d0]; rfl)).2 rfl
      (conv => whnf); rw [d0]
      (conv => whnf)
      exact ⟨rfl, (), rfl, st2⟩
  · rintro ⟨⟩ H3 junk3 st3
    (conv => whnf); refine fa fl132_2 ?_
    (conv => whnf); refine ld1 (v := .int .i64 (n : Int)) ct3 (by rw [(st3.blk 1 rfl).cell]; rfl) trivial ?_
    (conv => whnf); refine vmake1 sl23 rfl (by omega) (by omega) (by omega) (by omega) ?_
    intro sb H4 hsb hs4 hb4 ha4
    rw [Int.toNat_natCast] at hb4 ⊢
    have st4 := st3.tabNew tIk 3 hsb hs4 hb4 ha4
    (conv => whnf); refine fa fl132_0 ?_
    (conv => whnf); refine st1B st4 1 ct23 rfl (show 0 < 3 by decide) rfl fun H5 st5 => ?_
    (conv => whnf); refine fa fl132_2 ?_
    (conv => whnf); refine ld1 (v := .int .i64 (n : Int)) ct3 (by rw [(st5.blk 1 rfl).cell]; rfl) trivial ?_
    (conv => whnf); refine vmake1 sl130 rfl (by omega) (by omega) (by omega) (by omega) ?_
    intro tb H6 htb hs6 hb6 ha6
    rw [Int.toNat_natCast] at hb6 ⊢
    have st6 := st5.tabNew tEd 75 htb hs6 hb6 ha6
    (conv => whnf); refine fa fl132_1 ?_
    (conv => whnf); refine st1B st6 1 ct130 rfl (show 1 < 3 by decide) rfl fun H7 st7 => ?_
    have hp7 := st7.blk 0 rfl
    (conv => whnf); refine fa fl58_3 ?_
    (conv => whnf); refine ld1 (v := .slice ea a.edges.length ec) ct56 (by rw [hp7.cell]; rfl) trivial ?_
    (conv => whnf)
    refine VLoop.mk [40] (fun i : Nat => [.int .i64 (i : Int)]) (fun i H8 => i ≤ a.edges.length ∧ ∃ vs vt, St H H8 [pB 58 p (nfL a (.slice ea a.edges.length ec)), pB tNt nb (ntL (.slice (some ⟨sb, 0, none⟩) n n) (.slice (some ⟨tb, 0, none⟩) n n) n), pT tIk 3 33 sb vs (grp n (keyS a) (a.edges.take i)), pT tEd 75 56 tb vt (grp n (keyT a) (a.edges.take i))]) (fun i _ => a.edges.length - i) ?_ ?_
    · (conv => whnf)
      refine ⟨0, rfl, Nat.zero_le _, List.replicate n (.slice none 0 0), List.replicate n (.slice none 0 0), ?_⟩
      rw [List.take_zero, grp_nil, grp_nil]
      exact st7
    · rintro i H8 junk8 ⟨hi, vs, vt, st8⟩
      (conv => whnf); refine VIte.mk (fun hz => ?_) (fun hz => ?_) <;> simp only [decide_eq_true_eq, decide_eq_false_iff_not] at hz
      · obtain ⟨e, he⟩ := get_some (l := a.edges) (k := i) (by omega)
        (conv => whnf); refine VSeq.run ?_
        (conv => whnf); refine ixr (i := i) sl56 (h1.frame (st8.old.mono hS)) he rfl ?_
        rintro b6 o6 c6 hS6 hc6 ⟨rfl, hok⟩
        (conv => whnf); refine ldN (cs := edL e) ag75 hc6 trivial ?_
        (conv => whnf); refine valloc _ [.int .i64 0, .int .i64 0, .bool false, .int .u64 0, .int .u64 0, .int .u64 0, .int .u64 0] edge_z rfl ?_
        intro x H9 hx hs9 hb9 ha9
        have st9' := st8.box hx hs9 hb9 ha9
        (conv => whnf); refine stNB (cs := edL e) st9' 4 rfl rfl (Nat.le_refl _) rfl fun H10 st10 => ?_
        rw [splice_all (show (edL e).length = 7 from rfl)] at st10
        clear st9' hs9 hb9 ha9
        obtain ⟨H9, rfl⟩ : ∃ H9, H9 = H10 := ⟨_, rfl⟩
        have st9 := st10
        have hX := st9.blk 4 rfl
        have hcells : Cells H9 nb 0 (ntL (.slice (some ⟨sb, 0, none⟩) n n) (.slice (some ⟨tb, 0, none⟩) n n) (nstA a)) := by
          rw [← hn]; exact (st9.blk 1 rfl).cells fun j v hv => by rw [Nat.zero_add]; exact hv
        (conv => whnf); refine fa fl75_0 ?_
        (conv => whnf); refine ld1 (v := .int .i64 e.fr) ct3 (by rw [hX.cell]; rfl) trivial ?_
        (conv => whnf); refine pures (nhas_p hcells) fun H14 ha14 => ?_
        have st14 := st9.call ha14
        cases hf : a.has e.fr with
        | false =>
          have k1 : keyS a e = none := by unfold keyS okE; rw [hf, Bool.false_and, Bool.false_and]; rfl
          have k2 : keyT a e = none := by unfold keyT okE; rw [hf, Bool.false_and, Bool.false_and]; rfl
          have g1 := grp_none (n := n) (l := a.edges.take i) k1
          have g2 := grp_none (n := n) (l := a.edges.take i) k2
          rw [← take_succ_snoc he] at g1 g2
          (conv => whnf); rw [w64 (x := (i : Int) + 1) (by omega) (by omega)]
          refine ⟨rfl, i + 1, by simp, ⟨by omega, vs, vt, ?_⟩, by omega⟩
          rw [g1, g2]
          exact st14.pick [0, 1, 2, 3] (by decide)
        | true =>
          (conv => whnf); refine fa fl75_1 ?_
          (conv => whnf); refine ld1 (v := .int .i64 e.to) ct3 (by rw [(st14.blk 4 rfl).cell]; rfl) trivial ?_
          (conv => whnf); refine pures (nhas_p (hcells.eq (ha14 nb (st9.in_ 1 rfl rfl).2))) fun Hq ha15 => ?_
          have stq := st14.call ha15
          cases ht : a.has e.to with
          | false =>
            have k1 : keyS a e = none := by unfold keyS okE; rw [hf, ht, Bool.and_false, Bool.false_and]; rfl
            have k2 : keyT a e = none := by unfold keyT okE; rw [hf, ht, Bool.and_false, Bool.false_and]; rfl
            have g1 := grp_none (n := n) (l := a.edges.take i) k1
            have g2 := grp_none (n := n) (l := a.edges.take i) k2
            rw [← take_succ_snoc he] at g1 g2
            (conv => whnf); rw [w64 (x := (i : Int) + 1) (by omega) (by omega)]
            refine ⟨rfl, i + 1, by simp, ⟨by omega, vs, vt, ?_⟩, by omega⟩
            rw [g1, g2]
            exact stq.pick [0, 1, 2, 3] (by decide)
          | true =>
            have hfr := NfM.has_iff.1 hf
            have hfn : 0 ≤ e.fr ∧ e.fr < (n : Int) := by
              have := has_n a e.fr
              rw [hf, ← hn] at this
              simpa using this.symm
            have htn : e.fr.toNat < n := by omega
            (conv => whnf); refine fa fl75_2 ?_
            (conv => whnf); refine ld1 (v := .bool e.sil) ct4 (by rw [(stq.blk 4 rfl).cell]; rfl) trivial ?_
            cases hsl : e.sil with
            | true =>
              (conv => whnf)
              obtain ⟨row, hrow⟩ := get_some (l := grp n (keyS a) (a.edges.take i)) (k := e.fr.toNat) (by rw [grp_len]; omega)
              have hrl : row.length ≤ i := by
                rw [grp_get _ _ (show e.fr.toNat < n by omega)] at hrow
                injection hrow with hrow
                rw [← hrow]
                exact Nat.le_trans (List.length_filterMap_le _ _) (List.length_take_le _ _)
              obtain ⟨ra, rc, hvr, -⟩ := stq.row 2 rfl hrow
              have hne := stq.rowNe 2 rfl hvr hrow
              have foot : ∀ k, slB (.slice ra row.length rc) k → (pT tIk 3 33 sb vs (grp n (keyS a) (a.edges.take i))).foot k := fun k hk => .inr ⟨e.fr.toNat, _, hvr, hk⟩
              have d1 := stq.apart2 (i := 1) (j := 2) rfl rfl (by decide)
              have d4 := stq.apart2 (i := 4) (j := 2) rfl rfl (by decide)
              have qn : nb < Hq.size ∧ ¬ slB (.slice ra row.length rc) nb := ⟨(stq.in_ 1 rfl rfl).2, fun h => d1 nb rfl (foot nb h)⟩
              have qx : x < Hq.size ∧ ¬ slB (.slice ra row.length rc) x := ⟨(stq.in_ 4 rfl rfl).2, fun h => d4 x rfl (foot x h)⟩
              have qt : sb < Hq.size ∧ ¬ slB (.slice ra row.length rc) sb := ⟨(stq.in_ 2 rfl (.inl rfl)).2, hne⟩
              have hbq := stq.blk 1 rfl
              have hxq := stq.blk 4 rfl
              (conv => whnf); refine VDraw.heldZ (fun k => k < Hq.size ∧ ¬ slB (.slice ra row.length rc) k) [19] (sq [0,1,2,3,4,5,6,7,8,9,10,11,12,13,14,15] (.f 16 (.f 17 (sq [18] (.f 19 .e))))) rfl (by kernel_rfl) ?_
              (conv => whnf); refine fa fl132_0 ?_
              (conv => whnf); refine ld1 (v := .slice (some ⟨sb, 0, none⟩) n n) ct23 (by rw [hbq.cell]; rfl) qn ?_
              (conv => whnf); refine fa fl75_0 ?_
              (conv => whnf); refine ld1 (v := .int .i64 e.fr) ct3 (by rw [hxq.cell]; rfl) qx ?_
              (conv => whnf); refine fa fl132_0 ?_
              (conv => whnf); refine ld1 (v := .slice (some ⟨sb, 0, none⟩) n n) ct23 (by rw [hbq.cell]; rfl) qn ?_
              (conv => whnf); refine fa fl75_0 ?_
              (conv => whnf); refine ld1 (v := .int .i64 e.fr) ct3 (by rw [hxq.cell]; rfl) qx ?_
              (conv => whnf); refine ix sl23 (by omega) (by omega) ?_
              (conv => whnf); refine ld1 ct33 (stq.tcell 2 rfl hvr (by rw [Nat.zero_add, Nat.mul_one])) qt ?_
              (conv => whnf); refine fa fl75_1 ?_
              (conv => whnf); refine ld1 (v := .int .i64 e.to) ct3 (by rw [hxq.cell]; rfl) qx ?_
              (conv => whnf); refine vbuild1 sl33 [.int .i64 e.to] rfl rfl (by decide) (by decide) ?_
              intro q11 H11 hq11 hs11 hb11 ha11
              have st11 := stq.skip hq11 ha11
              refine ⟨ha11.mono fun k hk => by have := hk.1; omega, ?_⟩
              (conv => whnf); refine appTW (ds := [.int .i64 e.to]) (y := e.to) st11 2 sl33 rfl hvr hrow (hb11.cells fun j v hv => by rw [Nat.zero_add]; exact hv) ⟨rfl, hok.2⟩ rfl (by omega) (by decide) fun wa wc H12 mid ha12 => ?_
              refine ⟨(ha11.mono fun k hk => by have := hk.1; omega).trans (ha12.mono fun k hk => ⟨by have := hk.1; omega, hk.2⟩), ?_⟩
              (conv => whnf); refine ix sl23 (by omega) (by omega) ?_
              (conv => whnf); refine stT mid ct33 (by rw [Nat.zero_add, Nat.mul_one]) fun H13 st13 => ?_
              have hk1 : keyS a e = some (e.fr.toNat, e.to) := by unfold keyS okE; rw [hf, ht, hsl]; rfl
              have hk2 : keyT a e = none := by unfold keyT okE; rw [hf, ht, hsl]; rfl
              have g1 := grp_some hk1 hrow
              have g2 := grp_none (n := n) (l := a.edges.take i) hk2
              rw [← take_succ_snoc he] at g1 g2
              (conv => whnf); rw [w64 (x := (i : Int) + 1) (by omega) (by omega)]
              refine ⟨rfl, i + 1, by simp, ⟨by omega, vs.set e.fr.toNat (.slice wa (row.length + 1) wc), vt, ?_⟩, by omega⟩
              rw [g1, g2]
              exact st13.pick [0, 1, 2, 3] (by decide)
            | false =>
              (conv => whnf)
              obtain ⟨row, hrow⟩ := get_some (l := grp n (keyT a) (a.edges.take i)) (k := e.fr.toNat) (by rw [grp_len]; omega)
              have hrl : row.length ≤ i := by
                rw [grp_get _ _ (show e.fr.toNat < n by omega)] at hrow
                injection hrow with hrow
                rw [← hrow]
                exact Nat.le_trans (List.length_filterMap_le _ _) (List.length_take_le _ _)
              obtain ⟨ra, rc, hvr, -⟩ := stq.row 3 rfl hrow
              have hne := stq.rowNe 3 rfl hvr hrow
              have foot : ∀ k, slB (.slice ra row.length rc) k → (pT tEd 75 56 tb vt (grp n (keyT a) (a.edges.take i))).foot k := fun k hk => .inr ⟨e.fr.toNat, _, hvr, hk⟩
              have d1 := stq.apart2 (i := 1) (j := 3) rfl rfl (by decide)
              have d4 := stq.apart2 (i := 4) (j := 3) rfl rfl (by decide)
              have qn : nb < Hq.size ∧ ¬ slB (.slice ra row.length rc) nb := ⟨(stq.in_ 1 rfl rfl).2, fun h => d1 nb rfl (foot nb h)⟩
              have qx : x < Hq.size ∧ ¬ slB (.slice ra row.length rc) x := ⟨(stq.in_ 4 rfl rfl).2, fun h => d4 x rfl (foot x h)⟩
              have qt : tb < Hq.size ∧ ¬ slB (.slice ra row.length rc) tb := ⟨(stq.in_ 3 rfl (.inl rfl)).2, hne⟩
              have hbq := stq.blk 1 rfl
              have hxq := stq.blk 4 rfl
              (conv => whnf); refine VDraw.heldZ (fun k => k < Hq.size ∧ ¬ slB (.slice ra row.length rc) k) [18] (sq [0,1,2,3,4,5,6,7,8,9,10,11,12,13,14] (.f 15 (.f 16 (sq [17] (.f 18 .e))))) rfl (by kernel_rfl) ?_
              (conv => whnf); refine fa fl132_1 ?_
              (conv => whnf); refine ld1 (v := .slice (some ⟨tb, 0, none⟩) n n) ct130 (by rw [hbq.cell]; rfl) qn ?_
              (conv => whnf); refine fa fl75_0 ?_
              (conv => whnf); refine ld1 (v := .int .i64 e.fr) ct3 (by rw [hxq.cell]; rfl) qx ?_
              (conv => whnf); refine fa fl132_1 ?_
              (conv => whnf); refine ld1 (v := .slice (some ⟨tb, 0, none⟩) n n) ct130 (by rw [hbq.cell]; rfl) qn ?_
              (conv => whnf); refine fa fl75_0 ?_
              (conv => whnf); refine ld1 (v := .int .i64 e.fr) ct3 (by rw [hxq.cell]; rfl) qx ?_
              (conv => whnf); refine ix sl130 (by omega) (by omega) ?_
              (conv => whnf); refine ld1 ct56 (stq.tcell 3 rfl hvr (by rw [Nat.zero_add, Nat.mul_one])) qt ?_
              (conv => whnf); refine ldN (cs := edL e) ag75 (hxq.cells fun j v hv => by rw [Nat.zero_add]; exact hv) qx ?_
              (conv => whnf); refine vbuild1 sl56 (edL e) rfl rfl (by decide) (by decide) ?_
              intro q11 H11 hq11 hs11 hb11 ha11
              have st11 := stq.skip hq11 ha11
              refine ⟨ha11.mono fun k hk => by have := hk.1; omega, ?_⟩
              (conv => whnf); refine appTW (ds := edL e) (y := e) st11 3 sl56 rfl hvr hrow (hb11.cells fun j v hv => by rw [Nat.zero_add]; exact hv) ⟨rfl, hok⟩ (ed_ones e) (by omega) (by decide) fun wa wc H12 mid ha12 => ?_
              refine ⟨(ha11.mono fun k hk => by have := hk.1; omega).trans (ha12.mono fun k hk => ⟨by have := hk.1; omega, hk.2⟩), ?_⟩
              (conv => whnf); refine ix sl130 (by omega) (by omega) ?_
              (conv => whnf); refine stT mid ct56 (by rw [Nat.zero_add, Nat.mul_one]) fun H13 st13 => ?_
              have hk1 : keyT a e = some (e.fr.toNat, e) := by unfold keyT okE; rw [hf, ht, hsl]; rfl
              have hk2 : keyS a e = none := by unfold keyS okE; rw [hf, ht, hsl]; rfl
              have g1 := grp_some hk1 hrow
              have g2 := grp_none (n := n) (l := a.edges.take i) hk2
              rw [← take_succ_snoc he] at g1 g2
              (conv => whnf); rw [w64 (x := (i : Int) + 1) (by omega) (by omega)]
              refine ⟨rfl, i + 1, by simp, ⟨by omega, vs, vt.set e.fr.toNat (.slice wa (row.length + 1) wc), ?_⟩, by omega⟩
              rw [g1, g2]
              exact st13.pick [0, 1, 2, 3] (by decide)
      · obtain rfl : i = a.edges.length := by omega
        rw [List.take_length] at st8
        (conv => whnf)
        refine ⟨st8.old, nb, some ⟨sb, 0, none⟩, n, some ⟨tb, 0, none⟩, n, rfl, (st8.in_ 1 rfl rfl).2, ?_, ?_, ?_⟩
        · rw [← hn]; exact (st8.blk 1 rfl).cells fun j v hv => by rw [Nat.zero_add]; exact hv
        · have := st8.tview 2 rfl (by rw [grp_len]; unfold maxLen; omega)
          unfold silT
          rw [← hn]
          rw [grp_len] at this
          exact this
        · have := st8.tview 3 rfl (by rw [grp_len]; unfold maxLen; omega)
          unfold takT
          rw [← hn]
          rw [grp_len] at this
          exact this
-- END READY
end Go.Proofs.YthomdogheamfpaaDoor
/- louperef05.tabled: the walk. -/
set_option linter.unusedVariables false
set_option linter.unusedSimpArgs false
set_option maxRecDepth 100000
namespace Go.Proofs.YthomdogheamfpaaDoor
open Go.VC
def keyO (a : NfM) (e : EdM) : Option (Nat × EdM) := if okE a e then some (e.fr.toNat, e) else none
abbrev tTb : TypeId := 151
def tbL (n : Nat) (ov mv : Value) : List Value := [.int .i64 (n : Int), ov, mv]
theorem tb_z : (Tryd.prog.info? 151).bind (·.zero) = some (.agg #[.int .i64 0, .slice none 0 0, .slice none 0 0]) := rfl
/-- A table with no mark set. -/
def tabP (nb tb : Nat) (n : Nat) (ma : Option Addr) (mc : Nat) (vt : List Value) (rows : List (List EdM)) (marks : List Bool) : List Pc :=
  [pB tTb nb (tbL n (.slice (some ⟨tb, 0, none⟩) n n) (.slice ma n mc)), pT tEdD 143 65 tb vt rows, pS tBool 4 ma n mc marks]
theorem bool_reps {S : Nat → Prop} {H : Heap} : ∀ xs : List Bool, tBool.reps S H (xs.map Value.bool) xs
  | [] => rfl
  | x :: xs => ⟨[.bool x], xs.map Value.bool, rfl, rfl, bool_reps xs⟩
set_option maxHeartbeats 16000000 in
theorem tabled_c {S : Nat → Prop} {H : Heap} {v : Value} {a : NfM} (hS : ∀ k, S k → k < H.size) (h : NdV S H v a) :
    FnOk Tryd.prog 77 #[v] H fun r H' => ∃ nb tb ma mc vt, r = .pointer (some ⟨nb, 0, none⟩) ∧ St H H' (tabP nb tb (nstA a) ma mc vt (grp (nstA a) (keyO a) a.edges) (List.replicate (nstA a) false)) := by
  have hr := h.1
  have hl := h.2.1
  refine FnOk.of_vc Tryd.func77 rfl (Tryd.call77 _) ?_
  (conv => whnf); refine nd_box h fun ea ec he0 h1 => ?_
  subst he0
  intro p H1 hp hs1 hb1 ha1
  have st1 := (St.nil H).box hp hs1 hb1 ha1
  (conv => whnf); refine vbuildS Tryd.underlying151 rfl _ tb_z (tbL 0 (.slice none 0 0) (.slice none 0 0)) rfl ?_
  (conv => whnf); refine vbox (tbL 0 (.slice none 0 0) (.slice none 0 0)) rfl ?_
  intro nb H2 hnb hs2 hb2 ha2
  have st2 := st1.box hnb hs2 hb2 ha2
  have hnle := nstA_le a
  obtain ⟨n, hn⟩ : ∃ n, n = nstA a := ⟨_, rfl⟩
  rw [← hn] at hnle
  have hp2 := st2.blk 0 rfl
  have cond : ∀ c : Bool, c = (decide ((0 : Int) < a.st) && decide (a.st ≤ 65536)) → (c = true → (n : Int) = a.st) ∧ (c = false → n = 0) := by
    intro c hc
    rw [hc, hn]
    unfold nstA
    constructor
    · intro h
      simp only [Bool.and_eq_true, decide_eq_true_eq] at h
      rw [if_pos ⟨by omega, h.2⟩]; omega
    · intro h
      by_cases h0 : 0 < a.st
      · rw [if_neg fun h2 => by simp [h0, h2.2] at h]
      · split <;> omega
  (conv => whnf)
  refine VSeq.cut (α := Unit) [] (fun _ => []) (fun _ H3 => St H H3 [pB 67 p (nfL a (.slice ea a.edges.length ec)), pB tTb nb (tbL n (.slice none 0 0) (.slice none 0 0))]) ?_ ?_
  · (conv => whnf); refine fa fl67_0 ?_
    (conv => whnf); refine ld1 (v := .int .i64 a.st) ct3 (by rw [hp2.cell]; rfl) trivial ?_
    by_cases h0 : 0 < a.st
    · have d0 : decide ((0 : Int) < a.st) = true := decide_eq_true h0
      (conv => whnf); rw [d0]
      (conv => whnf); refine fa fl67_0 ?_
      (conv => whnf); refine ld1 (v := .int .i64 a.st) ct3 (by rw [hp2.cell]; rfl) trivial ?_
      by_cases h6 : a.st ≤ 65536
      · have d6 : decide (a.st ≤ (65536 : Int)) = true := decide_eq_true h6
        have hns : (n : Int) = a.st := (cond true (by rw [d0, d6]; rfl)).1 rfl
        (conv => whnf); rw [d6]
        (conv => whnf); refine fa fl67_0 ?_
        (conv => whnf); refine ld1 (v := .int .i64 a.st) ct3 (by rw [hp2.cell]; rfl) trivial ?_
        (conv => whnf); refine fa fl151_0 ?_
        (conv => whnf); refine st1B st2 1 ct3 rfl (show 0 < 3 by decide) rfl fun H3 st3 => ?_
        refine ⟨rfl, (), rfl, ?_⟩
        unfold tbL
        rw [hns]
        exact st3
      · have d6 : decide (a.st ≤ (65536 : Int)) = false := decide_eq_false h6
        obtain rfl : n = 0 := (cond false (by rw [d0, d6]; rfl)).2 rfl
        (conv => whnf); rw [d6]
        (conv => whnf)
        exact ⟨rfl, (), rfl, st2⟩
    · have d0 : decide ((0 : Int) < a.st) = false := decide_eq_false h0
      obtain rfl : n = 0 := (cond false (by rw [d0]; rfl)).2 rfl
      (conv => whnf); rw [d0]
      (conv => whnf)
      exact ⟨rfl, (), rfl, st2⟩
  · rintro ⟨⟩ H3 junk3 st3
    (conv => whnf); refine fa fl151_0 ?_
    (conv => whnf); refine ld1 (v := .int .i64 (n : Int)) ct3 (by rw [(st3.blk 1 rfl).cell]; rfl) trivial ?_
    (conv => whnf); refine vmake1 sl149 rfl (by omega) (by omega) (by omega) (by omega) ?_
    intro tb H4 htb hs4 hb4 ha4
    rw [Int.toNat_natCast] at hb4 ⊢
    have st4 := st3.tabNew tEdD 143 htb hs4 hb4 ha4
    (conv => whnf); refine fa fl151_1 ?_
    (conv => whnf); refine st1B st4 1 ct149 rfl (show 1 < 3 by decide) rfl fun H5 st5 => ?_
    (conv => whnf); refine fa fl151_0 ?_
    (conv => whnf); refine ld1 (v := .int .i64 (n : Int)) ct3 (by rw [(st5.blk 1 rfl).cell]; rfl) trivial ?_
    (conv => whnf); refine vmake1 sl24 rfl (by omega) (by omega) (by omega) (by omega) ?_
    intro mb H6 hmb hs6 hb6 ha6
    rw [Int.toNat_natCast] at hb6 ⊢
    have hreps : tBool.reps none_ H6 (List.replicate n (Value.bool false)) (List.replicate n false) := by
      have := bool_reps (S := none_) (H := H6) (List.replicate n false)
      rwa [List.map_replicate] at this
    have st6 := st5.new (T := tBool) (n := n) (xs := List.replicate n false) hmb hs6 hb6 ha6 hreps (by simp) (by unfold maxLen; omega)
    (conv => whnf); refine fa fl151_2 ?_
    (conv => whnf); refine st1B st6 1 ct24 rfl (show 2 < 3 by decide) rfl fun H7 st7 => ?_
    (conv => whnf)
    refine VLoop.mk [4] (fun i : Nat => [.int .i64 (i : Int)]) (fun i H8 => i ≤ a.edges.length ∧ ∃ vt, St H H8 [pB 67 p (nfL a (.slice ea a.edges.length ec)), pB tTb nb (tbL n (.slice (some ⟨tb, 0, none⟩) n n) (.slice (some ⟨mb, 0, none⟩) n n)), pT tEdD 143 65 tb vt (grp n (keyO a) (a.edges.take i)), pS tBool 4 (some ⟨mb, 0, none⟩) n n (List.replicate n false)]) (fun i _ => a.edges.length - i) ?_ ?_
    · (conv => whnf)
      refine ⟨0, rfl, Nat.zero_le _, List.replicate n (.slice none 0 0), ?_⟩
      rw [List.take_zero, grp_nil]
      exact st7
    · rintro i H8 junk8 ⟨hi, vt, st8⟩
      have hp8 := st8.blk 0 rfl
      (conv => whnf); refine fa fl67_3 ?_
      (conv => whnf); refine ld1 (v := .slice ea a.edges.length ec) ct65 (by rw [hp8.cell]; rfl) trivial ?_
      (conv => whnf); refine VIte.mk (fun hz => ?_) (fun hz => ?_) <;> simp only [decide_eq_true_eq, decide_eq_false_iff_not] at hz
      · obtain ⟨e, he⟩ := get_some (l := a.edges) (k := i) (by omega)
        (conv => whnf); refine VSeq.run ?_
        (conv => whnf); refine fa fl67_3 ?_
        (conv => whnf); refine ld1 (v := .slice ea a.edges.length ec) ct65 (by rw [hp8.cell]; rfl) trivial ?_
        (conv => whnf); refine ixr (i := i) sl65 (h1.frame (st8.old.mono hS)) he rfl ?_
        rintro b6 o6 c6 hS6 hc6 ⟨rfl, hok⟩
        (conv => whnf); refine ldN (cs := edDL e) (by rw [edDL_len]; exact ag143) hc6 trivial ?_
        (conv => whnf); refine valloc _ edZL edgeD_z rfl ?_
        intro x H9 hx hs9 hb9 ha9
        have st9 := st8.box hx hs9 hb9 ha9
        (conv => whnf); refine stNB (cs := edDL e) st9 4 (by rw [edDL_len]; rfl) rfl (by rw [edDL_len]; decide) (edD_ones e) fun Hq stq => ?_
        rw [splice_all (show (edDL e).length = edZL.length by rw [edDL_len, edZL_len])] at stq
        have hbq := stq.blk 1 rfl
        have hxq := stq.blk 4 rfl
        have hfn : a.has e.fr = (decide (0 ≤ e.fr) && decide (e.fr < (n : Int))) := by rw [has_n, hn]
        have htn : a.has e.to = (decide (0 ≤ e.to) && decide (e.to < (n : Int))) := by rw [has_n, hn]
        (conv => whnf); refine VDraw.lex rfl (by kernel_rfl) ?_
        (conv => whnf); refine fa fl143_0 ?_
        (conv => whnf); refine ld1 (v := .int .i64 e.fr) ct3 (by rw [hxq.cell]; rfl) trivial ?_
        by_cases c1 : 0 ≤ e.fr
        · have q1 : decide (0 ≤ e.fr) = true := decide_eq_true c1
          (conv => whnf); rw [q1]
          (conv => whnf); refine fa fl143_0 ?_
          (conv => whnf); refine ld1 (v := .int .i64 e.fr) ct3 (by rw [hxq.cell]; rfl) trivial ?_
          (conv => whnf); refine fa fl151_0 ?_
          (conv => whnf); refine ld1 (v := .int .i64 (n : Int)) ct3 (by rw [hbq.cell]; rfl) trivial ?_
          by_cases c2 : e.fr < (n : Int)
          · have q2 : decide (e.fr < (n : Int)) = true := decide_eq_true c2
            (conv => whnf); rw [q2]
            (conv => whnf); refine fa fl143_1 ?_
            (conv => whnf); refine ld1 (v := .int .i64 e.to) ct3 (by rw [hxq.cell]; rfl) trivial ?_
            by_cases c3 : 0 ≤ e.to
            · have q3 : decide (0 ≤ e.to) = true := decide_eq_true c3
              (conv => whnf); rw [q3]
              (conv => whnf); refine fa fl143_1 ?_
              (conv => whnf); refine ld1 (v := .int .i64 e.to) ct3 (by rw [hxq.cell]; rfl) trivial ?_
              (conv => whnf); refine fa fl151_0 ?_
              (conv => whnf); refine ld1 (v := .int .i64 (n : Int)) ct3 (by rw [hbq.cell]; rfl) trivial ?_
              by_cases c4 : e.to < (n : Int)
              · have q4 : decide (e.to < (n : Int)) = true := decide_eq_true c4
                have hk1 : keyO a e = some (e.fr.toNat, e) := by unfold keyO okE; rw [hfn, htn, q1, q2, q3, q4]; rfl
                obtain ⟨row, hrow⟩ := get_some (l := grp n (keyO a) (a.edges.take i)) (k := e.fr.toNat) (by rw [grp_len]; omega)
                have hrl : row.length ≤ i := by
                  rw [grp_get _ _ (show e.fr.toNat < n by omega)] at hrow
                  injection hrow with hrow
                  rw [← hrow]
                  exact Nat.le_trans (List.length_filterMap_le _ _) (List.length_take_le _ _)
                obtain ⟨ra, rc, hvr, -⟩ := stq.row 2 rfl hrow
                have hne := stq.rowNe 2 rfl hvr hrow
                have foot : ∀ k, slB (.slice ra row.length rc) k → (pT tEdD 143 65 tb vt (grp n (keyO a) (a.edges.take i))).foot k := fun k hk => .inr ⟨e.fr.toNat, _, hvr, hk⟩
                have d1 := stq.apart2 (i := 1) (j := 2) rfl rfl (by decide)
                have d4 := stq.apart2 (i := 4) (j := 2) rfl rfl (by decide)
                have qn : nb < Hq.size ∧ ¬ slB (.slice ra row.length rc) nb := ⟨(stq.in_ 1 rfl rfl).2, fun h => d1 nb rfl (foot nb h)⟩
                have qx : x < Hq.size ∧ ¬ slB (.slice ra row.length rc) x := ⟨(stq.in_ 4 rfl rfl).2, fun h => d4 x rfl (foot x h)⟩
                have qt : tb < Hq.size ∧ ¬ slB (.slice ra row.length rc) tb := ⟨(stq.in_ 2 rfl (.inl rfl)).2, hne⟩
                (conv => whnf); rw [q4]
                (conv => whnf); refine VDraw.heldZ (fun k => k < Hq.size ∧ ¬ slB (.slice ra row.length rc) k) [18] (sq [0,1,2,3,4,5,6,7,8,9,10,11,12,13,14] (.f 15 (.f 16 (sq [17] (.f 18 .e))))) rfl (by kernel_rfl) ?_
                (conv => whnf); refine fa fl151_1 ?_
                (conv => whnf); refine ld1 (v := .slice (some ⟨tb, 0, none⟩) n n) ct149 (by rw [hbq.cell]; rfl) qn ?_
                (conv => whnf); refine fa fl143_0 ?_
                (conv => whnf); refine ld1 (v := .int .i64 e.fr) ct3 (by rw [hxq.cell]; rfl) qx ?_
                (conv => whnf); refine fa fl151_1 ?_
                (conv => whnf); refine ld1 (v := .slice (some ⟨tb, 0, none⟩) n n) ct149 (by rw [hbq.cell]; rfl) qn ?_
                (conv => whnf); refine fa fl143_0 ?_
                (conv => whnf); refine ld1 (v := .int .i64 e.fr) ct3 (by rw [hxq.cell]; rfl) qx ?_
                (conv => whnf); refine ix sl149 (by omega) (by omega) ?_
                (conv => whnf); refine ld1 ct65 (stq.tcell 2 rfl hvr (by rw [Nat.zero_add, Nat.mul_one])) qt ?_
                (conv => whnf); refine ldN (cs := edDL e) (by rw [edDL_len]; exact ag143) (hxq.cells fun j v hv => by rw [Nat.zero_add]; exact hv) qx ?_
                (conv => whnf); refine vbuild1 sl65 (edDL e) rfl (edDL_len e) (by decide) (by decide) ?_
                intro q11 H11 hq11 hs11 hb11 ha11
                have st11 := stq.skip hq11 ha11
                refine ⟨ha11.mono fun k hk => by have := hk.1; omega, ?_⟩
                (conv => whnf); refine appTW (ds := edDL e) (y := e) st11 2 sl65 rfl hvr hrow (hb11.cells fun j v hv => by rw [Nat.zero_add]; exact hv) ⟨rfl, hok⟩ (edD_ones e) (by omega) (by decide) fun wa wc H12 mid ha12 => ?_
                refine ⟨(ha11.mono fun k hk => by have := hk.1; omega).trans (ha12.mono fun k hk => ⟨by have := hk.1; omega, hk.2⟩), ?_⟩
                (conv => whnf); refine ix sl149 (by omega) (by omega) ?_
                (conv => whnf); refine stT mid ct65 (by rw [Nat.zero_add, Nat.mul_one]) fun H13 st13 => ?_
                have g1 := grp_some hk1 hrow
                rw [← take_succ_snoc he] at g1
                (conv => whnf); rw [w64 (x := (i : Int) + 1) (by omega) (by omega)]
                refine ⟨rfl, i + 1, by simp, ⟨by omega, vt.set e.fr.toNat (.slice wa (row.length + 1) wc), ?_⟩, by omega⟩
                rw [g1]
                exact st13.pick [0, 1, 2, 3] (by decide)
              · have q4 : decide (e.to < (n : Int)) = false := decide_eq_false c4
                (conv => whnf); rw [q4]
                have hk : keyO a e = none := by unfold keyO okE; rw [hfn, htn, q1, q2, q3, q4]; simp
                have g1 := grp_none (n := n) (l := a.edges.take i) hk
                rw [← take_succ_snoc he] at g1
                (conv => whnf); rw [w64 (x := (i : Int) + 1) (by omega) (by omega)]
                refine ⟨rfl, i + 1, by simp, ⟨by omega, vt, ?_⟩, by omega⟩
                rw [g1]
                exact stq.pick [0, 1, 2, 3] (by decide)
            · have q3 : decide (0 ≤ e.to) = false := decide_eq_false c3
              (conv => whnf); rw [q3]
              have hk : keyO a e = none := by unfold keyO okE; rw [hfn, htn, q1, q2, q3]; simp
              have g1 := grp_none (n := n) (l := a.edges.take i) hk
              rw [← take_succ_snoc he] at g1
              (conv => whnf); rw [w64 (x := (i : Int) + 1) (by omega) (by omega)]
              refine ⟨rfl, i + 1, by simp, ⟨by omega, vt, ?_⟩, by omega⟩
              rw [g1]
              exact stq.pick [0, 1, 2, 3] (by decide)
          · have q2 : decide (e.fr < (n : Int)) = false := decide_eq_false c2
            (conv => whnf); rw [q2]
            have hk : keyO a e = none := by unfold keyO okE; rw [hfn, htn, q1, q2]; simp
            have g1 := grp_none (n := n) (l := a.edges.take i) hk
            rw [← take_succ_snoc he] at g1
            (conv => whnf); rw [w64 (x := (i : Int) + 1) (by omega) (by omega)]
            refine ⟨rfl, i + 1, by simp, ⟨by omega, vt, ?_⟩, by omega⟩
            rw [g1]
            exact stq.pick [0, 1, 2, 3] (by decide)
        · have q1 : decide (0 ≤ e.fr) = false := decide_eq_false c1
          (conv => whnf); rw [q1]
          have hk : keyO a e = none := by unfold keyO okE; rw [hfn, htn, q1]; simp
          have g1 := grp_none (n := n) (l := a.edges.take i) hk
          rw [← take_succ_snoc he] at g1
          (conv => whnf); rw [w64 (x := (i : Int) + 1) (by omega) (by omega)]
          refine ⟨rfl, i + 1, by simp, ⟨by omega, vt, ?_⟩, by omega⟩
          rw [g1]
          exact stq.pick [0, 1, 2, 3] (by decide)
      · obtain rfl : i = a.edges.length := by omega
        rw [List.take_length] at st8
        (conv => whnf)
        refine ⟨nb, tb, some ⟨mb, 0, none⟩, n, vt, rfl, ?_⟩
        unfold tabP
        rw [← hn]
        exact st8.pick [1, 2, 3] (by decide)
end Go.Proofs.YthomdogheamfpaaDoor
/- The document's book of sets: hash: the walk. -/
set_option linter.unusedVariables false
set_option linter.unusedSimpArgs false
set_option maxRecDepth 100000
namespace Go.Proofs.YthomdogheamfpaaDoor
open Go.VC
def hshL (l : List Int) : Nat := l.foldl (fun h x => (h * 31 + x.toNat + 1) % 1000003) 7
def hshM (l : List Int) : Nat := hshL l % 1024
theorem hshL_lt (l : List Int) : hshL l < 1000003 := by
  have key : ∀ (l : List Int) (h : Nat), h < 1000003 → l.foldl (fun h x => (h * 31 + x.toNat + 1) % 1000003) h < 1000003 := by
    intro l
    induction l with
    | nil => exact fun h hh => hh
    | cons x l ih => exact fun h hh => ih _ (Nat.mod_lt _ (by decide))
  exact key l 7 (by decide)
theorem hshL_snoc (l : List Int) (x : Int) : hshL (l ++ [x]) = (hshL l * 31 + x.toNat + 1) % 1000003 := by
  unfold hshL
  rw [List.foldl_append]
  rfl
set_option maxHeartbeats 4000000 in
theorem hash_p {S : Nat → Prop} {H : Heap} {a : Option Addr} {c : Nat} {xs : List Int} (hS : ∀ k, S k → k < H.size) (h : SlD tIk S H a c xs) (hr : ∀ q ∈ xs, 0 ≤ q ∧ q < 65536) :
    Pure Tryd.prog 111 #[.slice a xs.length c] H (.int .i64 (hshM xs : Int)) := by
  have hle := h.le
  unfold maxLen at hle
  refine FnOk.of_vc Tryd.func111 rfl (Tryd.call111 _) ?_
  (conv => whnf)
  refine VLoop.mk [3, 4] (fun i : Nat => [.int .i64 (hshL (xs.take i) : Int), .int .i64 (i : Int)]) (fun i H2 => i ≤ xs.length ∧ Agr (Old H) H H2) (fun i _ => xs.length - i) ?_ ?_
  · (conv => whnf)
    exact ⟨0, rfl, Nat.zero_le _, Agr.refl _ _⟩
  · rintro i H2 junk ⟨hi, ha⟩
    have hlt := hshL_lt (xs.take i)
    (conv => whnf); refine VIte.mk (fun hz => ?_) (fun hz => ?_) <;> simp only [decide_eq_true_eq, decide_eq_false_iff_not] at hz
    · obtain ⟨x, hx⟩ := get_some (l := xs) (k := i) (by omega)
      have hxr := hr x (List.mem_of_getElem? hx)
      have hsn := hshL_snoc (xs.take i) x
      rw [← take_succ_snoc hx] at hsn
      (conv => whnf); rw [w64 (x := (hshL (xs.take i) : Int) * 31) (by omega) (by omega)]
      (conv => whnf); refine ixr (i := i) sl33 (h.frame (ha.mono hS)) hx rfl ?_
      rintro b3 o3 c3 hS3 hc3 ⟨rfl, -⟩
      (conv => whnf); refine ld1 ct3 hc3.one trivial ?_
      (conv => whnf); rw [w64 (x := (hshL (xs.take i) : Int) * 31 + x) (by omega) (by omega)]
      (conv => whnf); rw [w64 (x := (hshL (xs.take i) : Int) * 31 + x + 1) (by omega) (by omega)]
      rw [show (hshL (xs.take i) : Int) * 31 + x + 1 = ((hshL (xs.take i) * 31 + x.toNat + 1 : Nat) : Int) by omega]
      (conv => whnf); refine vrem (a := hshL (xs.take i) * 31 + x.toNat + 1) (b := 1000003) (by decide) ?_
      rw [← hsn]
      (conv => whnf); rw [w64 (x := (i : Int) + 1) (by omega) (by omega)]
      exact ⟨rfl, i + 1, by simp, ⟨by omega, ha⟩, by omega⟩
    · obtain rfl : i = xs.length := by omega
      rw [List.take_length] at hlt ⊢
      (conv => whnf); refine vrem (a := hshL xs) (b := 1024) (by decide) ?_
      (conv => whnf)
      exact ⟨rfl, ha⟩
end Go.Proofs.YthomdogheamfpaaDoor
/- class.Next, class.Count; words of bits. -/
set_option linter.unusedVariables false
set_option linter.unusedSimpArgs false
set_option maxRecDepth 100000
namespace Go.VC
theorem vmin_ {P : Program} {ats : Array TypeId} {t : TypeId} {k k' : IntKind} {a b : Int} {S : Nat → Prop} {H : Heap} {K : Value → Prop} (h : K (.int k (if b < a then b else a))) : VDet P (Builtin.min_ ats t [.int k a, .int k' b].toArray) S H K := by
  refine VDet.mk _ (fun w _ => ?_) h
  simp [Builtin.min_, Builtin.min2]
theorem vmax_ {P : Program} {ats : Array TypeId} {t : TypeId} {k k' : IntKind} {a b : Int} {S : Nat → Prop} {H : Heap} {K : Value → Prop} (h : K (.int k (if a < b then b else a))) : VDet P (Builtin.max_ ats t [.int k a, .int k' b].toArray) S H K := by
  refine VDet.mk _ (fun w _ => ?_) h
  simp [Builtin.max_, Builtin.max2]
theorem wu_mod (n : Nat) : IntKind.wrap .u64 (n : Int) = ((n % 18446744073709551616 : Nat) : Int) := by
  unfold IntKind.wrap
  simp only [IntKind.bits, IntKind.signed, Bool.false_and, Bool.false_eq_true, if_false, Nat.reducePow, Int.reducePow]
  omega
theorem wu_add {x y : Nat} (h : x + y < 18446744073709551616) : IntKind.wrap .u64 ((x : Int) + (y : Int)) = ((x + y : Nat) : Int) := by
  rw [← Int.natCast_add, wu_mod, Nat.mod_eq_of_lt h]
theorem wu_mul (x y : Nat) : IntKind.wrap .u64 ((x : Int) * (y : Int)) = ((x * y % 18446744073709551616 : Nat) : Int) := by
  rw [← Int.natCast_mul, wu_mod]
theorem wi_nat {n : Nat} (h : n < 9223372036854775808) : IntKind.wrap .i64 (n : Int) = (n : Int) := w64 (by omega) (by omega)
end Go.VC
namespace Go.Proofs.YthomdogheamfpaaDoor
open Go.VC

/-! ### counting bits -/
theorem and_digit {a c x y : Nat} (ha : a < 256) (hc : c < 256) : (a + 256 * x) &&& (c + 256 * y) = (a &&& c) + 256 * (x &&& y) := by
  have h1 : ((a + 256 * x) &&& (c + 256 * y)) % 2 ^ 8 = (a &&& c) := by rw [Nat.and_mod_two_pow, show (a + 256 * x) % 2 ^ 8 = a by omega, show (c + 256 * y) % 2 ^ 8 = c by omega]
  have h2 : ((a + 256 * x) &&& (c + 256 * y)) / 2 ^ 8 = (x &&& y) := by rw [Nat.and_div_two_pow, show (a + 256 * x) / 2 ^ 8 = x by omega, show (c + 256 * y) / 2 ^ 8 = y by omega]
  omega
def mk_ (c : Nat) : Nat → Nat
  | 0 => 0
  | m + 1 => c + 256 * mk_ c m
theorem mk_succ (c m : Nat) : mk_ c (m + 1) = c + 256 * mk_ c m := rfl
def sw1 (m w : Nat) : Nat := ((w / 2) &&& mk_ 85 m) + (w &&& mk_ 85 m)
def sw2 (m w : Nat) : Nat := ((w / 4) &&& mk_ 51 m) + (w &&& mk_ 51 m)
def sw3 (m w : Nat) : Nat := (w / 16 + w) &&& mk_ 15 m
def pc8 (a : Nat) : Nat := ((List.range 8).filter fun j => a.testBit j).length
def popB (m w : Nat) : Nat := ((List.range m).filter fun j => w.testBit j).length
def g1 (a : Nat) : Nat := ((a / 2) &&& 85) + (a &&& 85)
def g2 (a : Nat) : Nat := ((a / 4) &&& 51) + (a &&& 51)
theorem g1_lt : ∀ a, a < 256 → g1 a < 256 := by decide +kernel
theorem g1_hi : ∀ a, a < 256 → ∀ r, r < 2 → ((a / 2 + 128 * r) &&& 85) = ((a / 2) &&& 85) := by decide +kernel
theorem g2_hi : ∀ a, a < 256 → ∀ r, r < 4 → ((a / 4 + 64 * r) &&& 51) = ((a / 4) &&& 51) := by decide +kernel
theorem g2_lt : ∀ a, a < 256 → g2 a < 256 ∧ (g2 (g1 a)) % 16 ≤ 4 ∧ g2 (g1 a) / 16 ≤ 4 := by decide +kernel
theorem g3_eq : ∀ a, a < 256 → ∀ r, r < 5 → ((g2 (g1 a) / 16 + 16 * r + g2 (g1 a)) &&& 15) = pc8 a := by decide +kernel
theorem pc8_le : ∀ a, a < 256 → pc8 a ≤ 8 := by decide +kernel
theorem sw1_digit {m a b : Nat} (ha : a < 256) : sw1 (m + 1) (a + 256 * b) = g1 a + 256 * sw1 m b := by
  unfold sw1
  rw [mk_succ]
  have e : (a + 256 * b) / 2 = (a / 2 + 128 * (b % 2)) + 256 * (b / 2) := by omega
  rw [e, and_digit (by omega) (by decide), and_digit ha (by decide), g1_hi a ha _ (by omega)]
  unfold g1; omega
theorem sw2_digit {m a b : Nat} (ha : a < 256) : sw2 (m + 1) (a + 256 * b) = g2 a + 256 * sw2 m b := by
  unfold sw2
  rw [mk_succ]
  have e : (a + 256 * b) / 4 = (a / 4 + 64 * (b % 4)) + 256 * (b / 4) := by omega
  rw [e, and_digit (by omega) (by decide), and_digit ha (by decide), g2_hi a ha _ (by omega)]
  unfold g2; omega
theorem sw_low (m b : Nat) (hb : b < 256 ^ m) : sw2 m (sw1 m b) % 16 ≤ 4 := by
  cases m with
  | zero =>
    obtain rfl : b = 0 := by simp at hb; omega
    decide
  | succ m =>
    have e : b = b % 256 + 256 * (b / 256) := by omega
    rw [e, sw1_digit (by omega), sw2_digit (g1_lt _ (by omega))]
    have := (g2_lt (b % 256) (by omega)).2.1
    omega
theorem sw_digit {m a b : Nat} (ha : a < 256) (hb : b < 256 ^ m) : sw3 (m + 1) (sw2 (m + 1) (sw1 (m + 1) (a + 256 * b))) = pc8 a + 256 * sw3 m (sw2 m (sw1 m b)) := by
  rw [sw1_digit ha, sw2_digit (g1_lt a ha)]
  have hl := sw_low m b hb
  have hg := g2_lt a ha
  generalize sw2 m (sw1 m b) = x at *
  unfold sw3
  rw [mk_succ]
  have e : (g2 (g1 a) + 256 * x) / 16 + (g2 (g1 a) + 256 * x) = (g2 (g1 a) / 16 + 16 * (x % 16) + g2 (g1 a)) + 256 * (x / 16 + x) := by omega
  rw [e, and_digit (by omega) (by decide), g3_eq a ha _ (by omega)]
theorem popB_digit (m w : Nat) : popB (8 + m) w = pc8 (w % 256) + popB m (w / 256) := by
  unfold popB pc8
  rw [List.range_add, List.filter_append, List.length_append, List.filter_map, List.length_map]
  congr 1
  · congr 1
    refine List.filter_congr fun j hj => ?_
    rw [List.mem_range] at hj
    rw [show (256 : Nat) = 2 ^ 8 from rfl, Nat.testBit_mod_two_pow]
    simp [hj]
  · congr 1
    refine List.filter_congr fun j _ => ?_
    simp only [Function.comp]
    rw [show (256 : Nat) = 2 ^ 8 from rfl, Nat.testBit_div_two_pow, Nat.add_comm]
def p8 (w i : Nat) : Nat := pc8 (w / 256 ^ i % 256)
theorem sw_all (w : Nat) (hw : w < 18446744073709551616) : sw3 8 (sw2 8 (sw1 8 w)) = p8 w 0 + 256 * (p8 w 1 + 256 * (p8 w 2 + 256 * (p8 w 3 + 256 * (p8 w 4 + 256 * (p8 w 5 + 256 * (p8 w 6 + 256 * p8 w 7)))))) ∧
    popB 64 w = p8 w 0 + (p8 w 1 + (p8 w 2 + (p8 w 3 + (p8 w 4 + (p8 w 5 + (p8 w 6 + p8 w 7)))))) := by
  have st : ∀ (m w i : Nat), w / 256 ^ i < 256 ^ (m + 1) → sw3 (m + 1) (sw2 (m + 1) (sw1 (m + 1) (w / 256 ^ i))) = p8 w i + 256 * sw3 m (sw2 m (sw1 m (w / 256 ^ (i + 1)))) := by
    intro m w i h
    have e : w / 256 ^ i = w / 256 ^ i % 256 + 256 * (w / 256 ^ (i + 1)) := by rw [Nat.pow_succ, ← Nat.div_div_eq_div_mul]; omega
    have h2 : w / 256 ^ (i + 1) < 256 ^ m := by
      rw [Nat.pow_succ, ← Nat.div_div_eq_div_mul, Nat.div_lt_iff_lt_mul (by decide)]
      rw [Nat.pow_succ] at h; exact h
    conv => lhs; rw [e]
    rw [sw_digit (by omega) h2]; rfl
  have sp : ∀ (m i : Nat), popB (8 + m) (w / 256 ^ i) = p8 w i + popB m (w / 256 ^ (i + 1)) := by
    intro m i
    rw [popB_digit, Nat.pow_succ, ← Nat.div_div_eq_div_mul]; rfl
  have h0 : w = w / 256 ^ 0 := by simp
  have hz : sw3 0 (sw2 0 (sw1 0 (w / 256 ^ 8))) = 0 := by
    rw [Nat.div_eq_of_lt (by simpa using hw)]; decide
  have bd : ∀ i, i ≤ 8 → w / 256 ^ i < 256 ^ (8 - i) := by
    intro i hi
    rw [Nat.div_lt_iff_lt_mul (Nat.pow_pos (by decide)), ← Nat.pow_add, show 8 - i + i = 8 by omega]
    simpa using hw
  constructor
  · conv => lhs; rw [h0]
    rw [st 7 w 0 (bd 0 (by omega)), st 6 w 1 (bd 1 (by omega)), st 5 w 2 (bd 2 (by omega)), st 4 w 3 (bd 3 (by omega)), st 3 w 4 (bd 4 (by omega)), st 2 w 5 (bd 5 (by omega)), st 1 w 6 (bd 6 (by omega)), st 0 w 7 (bd 7 (by omega)), hz]
    omega
  · conv => lhs; rw [h0]
    rw [show (64 : Nat) = 8 + 56 from rfl, sp 56 0, show (56 : Nat) = 8 + 48 from rfl, sp 48 1, show (48 : Nat) = 8 + 40 from rfl, sp 40 2, show (40 : Nat) = 8 + 32 from rfl, sp 32 3, show (32 : Nat) = 8 + 24 from rfl, sp 24 4, show (24 : Nat) = 8 + 16 from rfl, sp 16 5,
      show (16 : Nat) = 8 + 8 from rfl, sp 8 6, show (8 : Nat) = 8 + 0 from rfl, sp 0 7]
    rfl
theorem ones_p (w : Nat) (hw : w < 18446744073709551616) (H : Heap) : Pure Tryd.prog 119 #[.int .u64 (w : Int)] H (.int .i64 (popB 64 w : Int)) := by
  obtain ⟨hs, hp⟩ := sw_all w hw
  have b0 := pc8_le (w / 256 ^ 0 % 256) (by omega)
  have b1 := pc8_le (w / 256 ^ 1 % 256) (by omega)
  have b2 := pc8_le (w / 256 ^ 2 % 256) (by omega)
  have b3 := pc8_le (w / 256 ^ 3 % 256) (by omega)
  have b4 := pc8_le (w / 256 ^ 4 % 256) (by omega)
  have b5 := pc8_le (w / 256 ^ 5 % 256) (by omega)
  have b6 := pc8_le (w / 256 ^ 6 % 256) (by omega)
  have b7 := pc8_le (w / 256 ^ 7 % 256) (by omega)
  change p8 w 0 ≤ 8 at b0; change p8 w 1 ≤ 8 at b1; change p8 w 2 ≤ 8 at b2; change p8 w 3 ≤ 8 at b3; change p8 w 4 ≤ 8 at b4; change p8 w 5 ≤ 8 at b5; change p8 w 6 ≤ 8 at b6; change p8 w 7 ≤ 8 at b7
  have m1 : mk_ 85 8 = 6148914691236517205 := by decide
  have m2 : mk_ 51 8 = 3689348814741910323 := by decide
  have m3 : mk_ 15 8 = 1085102592571150095 := by decide
  have i1 : inK .u64 ((6148914691236517205 : Nat) : Int) := inU64 (by decide)
  have i2 : inK .u64 ((3689348814741910323 : Nat) : Int) := inU64 (by decide)
  have i3 : inK .u64 ((1085102592571150095 : Nat) : Int) := inU64 (by decide)
  refine FnOk.of_vc Tryd.func119 rfl (Tryd.call119 _) ?_
  have l1 : ((w / 2 ^ 1) &&& 6148914691236517205) + (w &&& 6148914691236517205) < 18446744073709551616 := by
    have := Nat.and_le_right (n := w / 2 ^ 1) (m := 6148914691236517205)
    have := Nat.and_le_right (n := w) (m := 6148914691236517205)
    omega
  (conv => whnf); refine vshr (a := w) (b := 1) (by decide) ?_
  (conv => whnf); refine vand (a := w / 2 ^ 1) (b := 6148914691236517205) (inU64 (by omega)) i1 ?_
  (conv => whnf); refine vand (a := w) (b := 6148914691236517205) (inU64 hw) i1 ?_
  (conv => whnf); rw [wu_add l1]
  have e1 : ((w / 2 ^ 1) &&& 6148914691236517205) + (w &&& 6148914691236517205) = sw1 8 w := by unfold sw1; rw [m1]
  rw [e1] at l1 ⊢
  generalize sw1 8 w = x1 at *
  have l2 : ((x1 / 2 ^ 2) &&& 3689348814741910323) + (x1 &&& 3689348814741910323) < 18446744073709551616 := by
    have := Nat.and_le_right (n := x1 / 2 ^ 2) (m := 3689348814741910323)
    have := Nat.and_le_right (n := x1) (m := 3689348814741910323)
    omega
  (conv => whnf); refine vshr (a := x1) (b := 2) (by decide) ?_
  (conv => whnf); refine vand (a := x1 / 2 ^ 2) (b := 3689348814741910323) (inU64 (by omega)) i2 ?_
  (conv => whnf); refine vand (a := x1) (b := 3689348814741910323) (inU64 l1) i2 ?_
  (conv => whnf); rw [wu_add l2]
  have e2 : ((x1 / 2 ^ 2) &&& 3689348814741910323) + (x1 &&& 3689348814741910323) = sw2 8 x1 := by unfold sw2; rw [m2]
  have l2' : ((x1 / 2 ^ 2) &&& 3689348814741910323) + (x1 &&& 3689348814741910323) ≤ 7378697629483820646 := by
    have := Nat.and_le_right (n := x1 / 2 ^ 2) (m := 3689348814741910323)
    have := Nat.and_le_right (n := x1) (m := 3689348814741910323)
    omega
  rw [e2] at l2 l2' ⊢
  generalize sw2 8 x1 = x2 at *
  (conv => whnf); refine vshr (a := x2) (b := 4) (by decide) ?_
  (conv => whnf); rw [wu_add (x := x2 / 2 ^ 4) (y := x2) (by omega)]
  (conv => whnf); refine vand (a := x2 / 2 ^ 4 + x2) (b := 1085102592571150095) (inU64 (by omega)) i3 ?_
  have e3 : ((x2 / 2 ^ 4 + x2) &&& 1085102592571150095) = sw3 8 x2 := by unfold sw3; rw [m3]
  rw [e3]
  generalize sw3 8 x2 = x3 at *
  generalize p8 w 0 = q0 at *
  generalize p8 w 1 = q1 at *
  generalize p8 w 2 = q2 at *
  generalize p8 w 3 = q3 at *
  generalize p8 w 4 = q4 at *
  generalize p8 w 5 = q5 at *
  generalize p8 w 6 = q6 at *
  generalize p8 w 7 = q7 at *
  have lx : x3 < 1152921504606846976 := by omega
  (conv => whnf); refine vshr (a := x3) (b := 8) (by decide) ?_
  (conv => whnf); rw [wu_add (x := x3) (y := x3 / 2 ^ 8) (by omega)]
  (conv => whnf); refine vshr (a := x3 + x3 / 2 ^ 8) (b := 16) (by decide) ?_
  (conv => whnf); rw [wu_add (x := x3 + x3 / 2 ^ 8) (y := (x3 + x3 / 2 ^ 8) / 2 ^ 16) (by omega)]
  obtain ⟨y, hy⟩ : ∃ y, y = x3 + x3 / 2 ^ 8 := ⟨_, rfl⟩
  rw [← hy]
  obtain ⟨z, hz⟩ : ∃ z, z = y + y / 2 ^ 16 := ⟨_, rfl⟩
  rw [← hz]
  (conv => whnf); refine vshr (a := z) (b := 32) (by decide) ?_
  (conv => whnf); rw [wu_add (x := z) (y := z / 2 ^ 32) (by omega)]
  obtain ⟨u, hu⟩ : ∃ u, u = z + z / 2 ^ 32 := ⟨_, rfl⟩
  rw [← hu]
  (conv => whnf); rw [wi_nat (n := u) (by omega)]
  (conv => whnf); refine vand (a := u) (b := 127) (inI64 (by omega)) (inI64 (by decide)) ?_
  (conv => whnf)
  have hand : (u &&& 127) = popB 64 w := by
    rw [show (127 : Nat) = 2 ^ 7 - 1 by decide, Nat.and_two_pow_sub_one_eq_mod, hp]
    have k1 : x3 / 2 ^ 8 = q1 + 256 * (q2 + 256 * (q3 + 256 * (q4 + 256 * (q5 + 256 * (q6 + 256 * q7))))) := by omega
    have k2 : y / 2 ^ 16 = (q2 + q3) + 256 * ((q3 + q4) + 256 * ((q4 + q5) + 256 * ((q5 + q6) + 256 * ((q6 + q7) + 256 * q7)))) := by rw [hy, k1, hs]; clear hu hz hy k1 hs; omega
    have k3 : z / 2 ^ 32 = (q4 + q5 + q6 + q7) + 256 * ((q5 + q6 + q7) + 256 * ((q6 + q7) + 256 * q7)) := by rw [hz, k2, hy, k1, hs]; clear hu hz hy k1 k2 hs; omega
    rw [hu, k3, hz, k2, hy, k1, hs]
    clear hu hz hy k1 k2 k3 hs
    omega
  rw [hand]
  exact ⟨rfl, Agr.refl _ _⟩

def countM (s : BitVec 256) : Nat := ((List.range 256).filter fun b => s.getLsbD b).length
theorem count_words (s : BitVec 256) : countM s = popB 64 (wd s 0) + (popB 64 (wd s 1) + (popB 64 (wd s 2) + popB 64 (wd s 3))) := by
  have one : ∀ i m, ((List.range (64 + m)).filter fun j => s.getLsbD (64 * i + j)).length = popB 64 (wd s i) + ((List.range m).filter fun j => s.getLsbD (64 * (i + 1) + j)).length := by
    intro i m
    rw [List.range_add, List.filter_append, List.length_append, List.filter_map, List.length_map]
    congr 1
    · unfold popB
      congr 1
      refine List.filter_congr fun j hj => ?_
      rw [List.mem_range] at hj
      rw [wd_bit s i j hj]
    · congr 1
      refine List.filter_congr fun j _ => ?_
      simp only [Function.comp]
      rw [show 64 * i + (64 + j) = 64 * (i + 1) + j by omega]
  have h0 : countM s = ((List.range (64 + 192)).filter fun j => s.getLsbD (64 * 0 + j)).length := by
    unfold countM
    simp only [Nat.mul_zero, Nat.zero_add, Nat.reduceAdd]
  rw [h0, one 0 192, show (192 : Nat) = 64 + 128 from rfl, one 1 128, show (128 : Nat) = 64 + 64 from rfl, one 2 64, show (64 : Nat) = 64 + 0 from rfl, one 3 0]
  first | done | rfl
theorem popB_le (m w : Nat) : popB m w ≤ m := by
  unfold popB
  exact Nat.le_trans (List.length_filter_le _ _) (by simp)
theorem count_le (s : BitVec 256) : countM s ≤ 256 := by
  unfold countM
  exact Nat.le_trans (List.length_filter_le _ _) (by simp)
def cntTo4 (s : BitVec 256) : Nat → Nat
  | 0 => 0
  | i + 1 => cntTo4 s i + popB 64 (wd s i)
theorem cntTo4_le (s : BitVec 256) : ∀ i, cntTo4 s i ≤ 64 * i
  | 0 => Nat.le_refl _
  | i + 1 => by have := cntTo4_le s i; have := popB_le 64 (wd s i); simp only [cntTo4]; omega
theorem count_p (s : BitVec 256) (H : Heap) : Pure Tryd.prog 95 #[setV s] H (.int .i64 (countM s : Int)) := by
  refine FnOk.of_vc Tryd.func95 rfl (Tryd.call95 _) ?_
  (conv => whnf); refine vbox (setL s) rfl ?_
  intro pb H1 hpb hs1 hb1 ha1
  have hA1 : Agr (Old H) H H1 := ha1.mono fun j hj => by unfold Old at hj; omega
  (conv => whnf); refine ldN (cs := setL s) ag73 (hb1.cells fun j v hv => by rw [Nat.zero_add]; exact hv) trivial ?_
  (conv => whnf)
  refine VLoop.mk [3, 7] (fun i : Nat => [.int .i64 (cntTo4 s i : Int), .int .i64 i]) (fun i H2 => i ≤ 4 ∧ Agr (Old H) H H2) (fun i _ => 4 - i) ?_ ?_
  · (conv => whnf); exact ⟨0, rfl, by omega, hA1⟩
  · rintro i H2 junk ⟨hi, ha2⟩
    (conv => whnf); refine VIte.mk (fun h => ?_) (fun h => ?_) <;> simp only [decide_eq_true_eq, decide_eq_false_iff_not] at h
    · have hget : (setL s)[i]? = some (.int .u64 (wd s i)) := by
        have : i = 0 ∨ i = 1 ∨ i = 2 ∨ i = 3 := by omega
        rcases this with rfl | rfl | rfl | rfl <;> rfl
      have hle := cntTo4_le s i
      have hpl := popB_le 64 (wd s i)
      (conv => whnf); refine ixv1 (v := .int .u64 (wd s i)) ar73 ct69 (by omega) (by omega) (by rw [Int.toNat_natCast, Nat.mul_one]; simpa using hget) ?_
      (conv => whnf); refine pures (ones_p (wd s i) (wd_lt s i) H2) fun H3 ha3 => ?_
      (conv => whnf); rw [w64 (x := (cntTo4 s i : Int) + (popB 64 (wd s i) : Int)) (by omega) (by omega)]
      (conv => whnf); rw [w64 (x := (i : Int) + 1) (by omega) (by omega)]
      exact ⟨rfl, i + 1, by simp [cntTo4], ⟨by omega, ha2.trans (ha3.mono fun k hk => old_lt ha2 hk)⟩, by omega⟩
    · obtain rfl : i = 4 := by omega
      (conv => whnf)
      refine ⟨?_, ha2⟩
      rw [count_words]
      simp only [cntTo4]
      congr 2
      omega

/-! ### the least byte -/
def nextM (s : BitVec 256) (n : Nat) : Nat × Bool := match (List.range 256).find? fun b => decide (n ≤ b) && s.getLsbD b with
  | some b => (b, true)
  | none => (0, false)
theorem nextM_lt (s : BitVec 256) (n : Nat) : (nextM s n).1 < 256 := by
  unfold nextM
  split
  · rename_i b h
    have := List.mem_of_find?_eq_some h
    simpa using this
  · decide
theorem next_p (s : BitVec 256) (n : Nat) (hn : n ≤ 256) (H : Heap) : Pure Tryd.prog 89 #[setV s, .int .i64 n] H (.tuple #[.int .u8 ((nextM s n).1 : Int), .bool (nextM s n).2]) := by
  refine FnOk.of_vc Tryd.func89 rfl (Tryd.call89 _) ?_
  (conv => whnf); refine vbox (setL s) rfl ?_
  intro pb H1 hpb hs1 hb1 ha1
  have st1 := (St.nil H).box hpb hs1 hb1 ha1
  (conv => whnf); refine vmax_ ?_
  rw [if_neg (by omega)]
  (conv => whnf)
  refine VLoop.mk [4, 5, 6] (fun k : Nat => [.int .u8 0, .bool false, .int .i64 k]) (fun k H2 => n ≤ k ∧ k ≤ 256 ∧ (∀ j, n ≤ j → j < k → s.getLsbD j = false) ∧ St H H2 [pB 73 pb (setL s)]) (fun k _ => 256 - k) ?_ ?_
  · (conv => whnf); exact ⟨n, rfl, Nat.le_refl _, hn, fun j h1 h2 => by omega, st1⟩
  · rintro k H2 junk ⟨hnk, hk, hno, st⟩
    (conv => whnf); refine VIte.mk (fun h => ?_) (fun h => ?_) <;> simp only [decide_eq_true_eq, decide_eq_false_iff_not] at h
    · have hk8 : k < 256 := by omega
      (conv => whnf); refine ldN (cs := setL s) ag73 ((st.blk 0 rfl).cells fun j v hv => by rw [Nat.zero_add]; exact hv) trivial ?_
      (conv => whnf); rw [w8 (x := (k : Int)) (by omega) (by omega)]
      (conv => whnf); refine pures (has_c s k hk8 H2) fun H3 ha3 => ?_
      have st3 := st.call ha3
      cases hb : s.getLsbD k with
      | true =>
        (conv => whnf); rw [w8 (x := (k : Int)) (by omega) (by omega)]
        (conv => whnf)
        have hf : ((List.range 256).find? fun b => decide (n ≤ b) && s.getLsbD b) = some k := by
          rw [List.find?_range_eq_some]
          refine ⟨by simp [hnk, hb], by simpa using hk8, fun j hj => ?_⟩
          by_cases hnj : n ≤ j
          · simp [hno j hnj hj]
          · simp [hnj]
        refine ⟨?_, st3.old⟩
        unfold nextM
        rw [hf]; first | done | rfl
      | false =>
        (conv => whnf); rw [w64 (x := (k : Int) + 1) (by omega) (by omega)]
        refine ⟨rfl, k + 1, by simp, ⟨by omega, by omega, fun j h1 h2 => ?_, st3⟩, by omega⟩
        by_cases hjk : j = k
        · subst hjk; exact hb
        · exact hno j h1 (by omega)
    · obtain rfl : k = 256 := by omega
      (conv => whnf)
      have hf : ((List.range 256).find? fun b => decide (n ≤ b) && s.getLsbD b) = none := by
        rw [List.find?_range_eq_none]
        intro j hj
        by_cases hnj : n ≤ j
        · simp [hno j hnj (by simpa using hj)]
        · simp [hnj]
      refine ⟨?_, st.old⟩
      unfold nextM
      rw [hf]; first | done | rfl
end Go.Proofs.YthomdogheamfpaaDoor
/- What dfa.sound and dfa.alike compute. -/
set_option linter.unusedVariables false
set_option linter.unusedSimpArgs false
set_option maxRecDepth 100000
namespace Go.Proofs.YthomdogheamfpaaDoor
open Go.VC

abbrev tI : Ty Int := tInt .i64
abbrev tRows : Ty (List Int) := tSl tI

theorem sound_p (ca na fa : Option Addr) (cc nc fc fl : Nat) (cells : List (BitVec 256)) (next : List (List Int)) (S : Nat → Prop) (H : Heap) (hS : ∀ k, S k → k < H.size)
    (hc : SlD tSet S H ca cc cells) (hn : SlD tRows S H na nc next) (hfl : fl ≤ 9223372036854775807) :
    Pure Tryd.prog 91 #[.slice ca cells.length cc, .slice na next.length nc, .slice fa fl fc] H (.bool (soundB cells next fl)) := by
  have lc := hc.le
  have ln := hn.le
  unfold maxLen at lc ln
  refine FnOk.of_vc Tryd.func91 rfl (Tryd.call91 _) ?_
  (conv => whnf); refine valloc (setV 0) (setL 0) rfl rfl ?_
  intro p H1 hp hs1 hb1 ha1
  (conv => whnf)
  refine VLoop.mk [16] (fun k : Nat => [.int .i64 k]) (fun k H2 => k ≤ cells.length ∧ Agr (Old H) H H2 ∧ p < H2.size ∧ ∃ all, disjGo 0#256 (cells.take k) = some all ∧ Blk H2 p 73 (setL all)) (fun k _ => cells.length - k) ?_ ?_
  · (conv => whnf)
    exact ⟨0, rfl, by omega, ha1.mono (fun k hk => by unfold Old at hk; omega), by omega, 0, rfl, hb1⟩
  · rintro k H2 junk ⟨hk, ha2, hp2, all, hall, hb2⟩
    (conv => whnf)
    refine VIte.mk (fun h => ?_) (fun h => ?_) <;> simp only [decide_eq_true_eq, decide_eq_false_iff_not] at h
    · obtain ⟨c, hck⟩ := get_some (l := cells) (k := k) (by omega)
      (conv => whnf); refine ixr sl83 (hc.frame (ha2.mono hS)) hck rfl ?_
      rintro b o cs hSb hcells rfl
      (conv => whnf); refine ldN (cs := setL c) ag73 hcells trivial ?_
      (conv => whnf); refine valloc (setV 0) (setL 0) rfl rfl ?_
      intro q H3 hq hs3 hb3 ha3
      (conv => whnf); refine stN rfl hb3 (show 0 + 4 ≤ 4 by decide) rfl ?_
      intro H4 hb4 ha4 hs4
      have hb4' : Blk H4 q 73 (setL c) := hb4
      have hb2' : Blk H4 p 73 (setL all) := (hb2.agr ha3 (show p < q by omega)).agr ha4 (show p ≠ q by omega)
      (conv => whnf); refine ldN (cs := setL all) ag73 (hb2'.cells (fun j v hv => by simpa using hv)) trivial ?_
      (conv => whnf); refine ldN (cs := setL c) ag73 (hb4'.cells (fun j v hv => by simpa using hv)) trivial ?_
      (conv => whnf); refine pures (meet_c all c H4) ?_
      intro H5 ha5
      (conv => whnf); refine vbuildA ar73 (setV 0) rfl (setL 0) rfl ?_
      (conv => whnf); refine set_neq (all &&& c) 0#256 ?_
      have hA : Agr (Old H) H H5 := (ha2.trans ((ha3.mono (fun k hk => by unfold Old at hk; omega)).trans (ha4.mono (fun k hk => by unfold Old at hk; omega)))).trans (ha5.mono (fun k hk => by unfold Old at *; omega))
      by_cases hm : all &&& c = 0#256
      · rw [show decide (all &&& c = 0#256) = true by simpa using hm]
        have hb5 := hb2'.agr ha5 (show p < H4.size by omega)
        have hb5' := hb4'.agr ha5 (show q < H4.size by omega)
        (conv => whnf); refine ldN (cs := setL all) ag73 (hb5.cells (fun j v hv => by simpa using hv)) trivial ?_
        (conv => whnf); refine ldN (cs := setL c) ag73 (hb5'.cells (fun j v hv => by simpa using hv)) trivial ?_
        (conv => whnf); refine pures (union_c all c H5) ?_
        intro H6 ha6
        (conv => whnf); refine stN rfl (hb5.agr ha6 hb5.lt) (show 0 + 4 ≤ 4 by decide) rfl ?_
        intro H7 hb7 ha7 hs7
        (conv => whnf); rw [w64 (x := (k : Int) + 1) (by omega) (by omega)]
        have h56 := old_size ha6
        have h45 := old_size ha5
        refine ⟨rfl, k + 1, by simp, ⟨by omega, ?_, by omega, all ||| c, ?_, hb7⟩, by omega⟩
        · exact (hA.trans (ha6.mono (fun k hk => by unfold Old at *; omega))).trans (ha7.mono (fun k hk => by unfold Old at hk; omega))
        · rw [take_succ_snoc hck, disjGo_snoc hall, if_pos hm]
      · rw [show decide (all &&& c = 0#256) = false by simpa using hm]
        (conv => whnf)
        refine ⟨?_, hA⟩
        have : disjGo 0#256 cells = none := by
          rw [← List.take_append_drop (k + 1) cells, disjGo_append, take_succ_snoc hck, disjGo_snoc hall, if_neg hm]; rfl
        simp [soundB, this]
    · have hkc : k = cells.length := by omega
      subst hkc
      rw [List.take_length] at hall
      (conv => whnf)
      refine VDraw.quiet (Old H2) rfl (by kernel_rfl) ?_
      have hOld : ∀ {H' : Heap}, Agr (Old H2) H2 H' → Agr (fun k => k < H.size) H H' := fun h => ha2.trans (h.mono (fun k hk => by unfold Old at *; omega))
      (conv => whnf); refine ldN (cs := setL all) ag73 (hb2.cells (fun j v hv => by simpa using hv)) hp2 ?_
      (conv => whnf); refine pureq (fun H' _ => span_p 0 255 (by decide) (by decide) H') ?_
      (conv => whnf); refine set_neq all (spanS 0 255) ?_
      rw [spanS_full]
      (conv => whnf); refine VIte.mk (fun h1 => ?_) (fun h1 => ?_) <;> simp only [Bool.not_eq_true', Bool.not_eq_false', decide_eq_true_eq, decide_eq_false_iff_not] at h1
      · (conv => whnf); intro H5 ha5
        (conv => whnf); exact ⟨by
          have e : (all == BitVec.allOnes 256) = false := beq_eq_false_iff_ne.2 h1
          rw [soundB, hall]; simp only [e, Bool.false_and], hOld ha5⟩
      (conv => whnf); refine VIte.mk (fun h2 => ?_) (fun h2 => ?_) <;> simp only [decide_eq_true_eq, decide_eq_false_iff_not] at h2
      · (conv => whnf); intro H5 ha5
        (conv => whnf); exact ⟨by simp [soundB, hall, show ¬ 1 ≤ next.length by omega], hOld ha5⟩
      (conv => whnf); refine VIte.mk (fun h3 => ?_) (fun h3 => ?_) <;> simp only [decide_eq_true_eq, decide_eq_false_iff_not] at h3
      · (conv => whnf); intro H5 ha5
        (conv => whnf); exact ⟨by simp [soundB, hall, show ¬ next.length ≤ 65536 by omega], hOld ha5⟩
      (conv => whnf); intro H5 ha5
      (conv => whnf); refine VIte.mk (fun h4 => ?_) (fun h4 => ?_) <;> simp only [bne_iff_ne, ne_eq, bne_eq_false_iff_eq] at h4
      · (conv => whnf); exact ⟨by simp [soundB, hall, show ¬ next.length = fl by omega], hOld ha5⟩
      have h4' : next.length = fl := by omega
      have hsound : soundB cells next fl = next.all (rowOk next.length cells.length) := by
        have e : (all == BitVec.allOnes 256) = true := beq_iff_eq.2 h1
        rw [soundB, hall]
        simp only [e, decide_eq_true (show 1 ≤ next.length by omega), decide_eq_true (show next.length ≤ 65536 by omega), beq_iff_eq.2 h4', Bool.and_self, Bool.true_and]
      rw [hsound]
      have bad : ∀ {k : Nat} {row : List Int}, next[k]? = some row → rowOk next.length cells.length row = false → next.all (rowOk next.length cells.length) = false := by
        intro k row h1 h2
        rw [List.all_eq_false]
        exact ⟨row, List.mem_of_getElem? h1, by simp [h2]⟩
      have hn5 := hn.frame ((hOld ha5).mono hS)
      (conv => whnf)
      refine VLoop.mk [51] (fun k : Nat => [.int .i64 k]) (fun k H' => H' = H5 ∧ k ≤ next.length ∧ (next.take k).all (rowOk next.length cells.length) = true) (fun k _ => next.length - k) ?_ ?_
      · (conv => whnf)
        exact ⟨0, rfl, rfl, by omega, rfl⟩
      · rintro k H6 junk2 ⟨rfl, hk2, hall2⟩
        (conv => whnf)
        refine VIte.mk (fun h => ?_) (fun h => ?_) <;> simp only [decide_eq_true_eq, decide_eq_false_iff_not] at h
        · obtain ⟨row, hrow⟩ := get_some (l := next) (k := k) (by omega)
          (conv => whnf); refine ixr sl23 hn5 hrow rfl ?_
          rintro b o cs hSb hcells ⟨ra, rc, rfl, hr⟩
          have lr := hr.le
          unfold maxLen at lr
          (conv => whnf); refine ld1 ct33 hcells.one trivial ?_
          (conv => whnf); refine VIte.mk (fun h5 => ?_) (fun h5 => ?_) <;> simp only [bne_iff_ne, ne_eq, bne_eq_false_iff_eq] at h5
          · (conv => whnf); exact ⟨by rw [bad hrow (by simp [rowOk]; intro h; omega)], hOld ha5⟩
          (conv => whnf)
          refine VLoop.mk [62] (fun j : Nat => [.int .i64 j]) (fun j H' => H' = H6 ∧ j ≤ row.length ∧ (row.take j).all (fun q => decide (0 ≤ q) && decide (q < (next.length : Int))) = true) (fun j _ => row.length - j) ?_ ?_
          · (conv => whnf)
            exact ⟨0, rfl, rfl, by omega, rfl⟩
          · rintro j H7 junk3 ⟨rfl, hj, hall3⟩
            (conv => whnf)
            refine VIte.mk (fun h => ?_) (fun h => ?_) <;> simp only [decide_eq_true_eq, decide_eq_false_iff_not] at h
            · obtain ⟨q, hq⟩ := get_some (l := row) (k := j) (by omega)
              have badq : ¬ (0 ≤ q ∧ q < (next.length : Int)) → rowOk next.length cells.length row = false := by
                intro hb
                have : (row.all fun q => decide (0 ≤ q) && decide (q < (next.length : Int))) = false := by
                  rw [List.all_eq_false]
                  exact ⟨q, List.mem_of_getElem? hq, by simpa using hb⟩
                simp only [rowOk, this, Bool.and_false]
              (conv => whnf); refine ixr sl33 hr hq rfl ?_
              rintro b2 o2 cs2 hSb2 hcells2 ⟨rfl, hqk⟩
              (conv => whnf); refine ld1 ct3 hcells2.one trivial ?_
              (conv => whnf); refine VIte.mk (fun h6 => ?_) (fun h6 => ?_) <;> simp only [decide_eq_true_eq, decide_eq_false_iff_not] at h6
              · (conv => whnf); exact ⟨by rw [bad hrow (badq (by omega))], hOld ha5⟩
              (conv => whnf); refine VIte.mk (fun h7 => ?_) (fun h7 => ?_) <;> simp only [decide_eq_true_eq, decide_eq_false_iff_not] at h7
              · (conv => whnf); exact ⟨by rw [bad hrow (badq (by omega))], hOld ha5⟩
              (conv => whnf); rw [w64 (x := (j : Int) + 1) (by omega) (by omega)]
              refine ⟨rfl, j + 1, by simp, ⟨rfl, by omega, ?_⟩, by omega⟩
              rw [take_succ_snoc hq, List.all_append, hall3]
              simp; omega
            · have hj' : j = row.length := by omega
              subst hj'
              rw [List.take_length] at hall3
              (conv => whnf); rw [w64 (x := (k : Int) + 1) (by omega) (by omega)]
              refine ⟨rfl, k + 1, by simp, ⟨rfl, by omega, ?_⟩, by omega⟩
              rw [take_succ_snoc hrow, List.all_append, hall2]
              simp only [List.all_cons, List.all_nil, Bool.and_true, Bool.true_and, rowOk, hall3, beq_iff_eq]
              omega
        · have hk' : k = next.length := by omega
          subst hk'
          rw [List.take_length] at hall2
          (conv => whnf); exact ⟨by rw [hall2], hOld ha5⟩

theorem alike_p (na : Option Addr) (nc c d m : Nat) (next : List (List Int)) (S : Nat → Prop) (H : Heap) (hn : SlD tRows S H na nc next) (hm : ∀ row ∈ next, row.length = m) (hc : c < m) (hd : d < m) (hm64 : m ≤ 9223372036854775807) :
    Pure Tryd.prog 118 #[.slice na next.length nc, .int .i64 c, .int .i64 d] H (.bool (alikeB next c d)) := by
  have ln := hn.le
  unfold maxLen at ln
  refine FnOk.of_vc Tryd.func118 rfl (Tryd.call118 _) ?_
  (conv => whnf); refine VIte.mk (fun h => ?_) (fun h => ?_) <;> simp only [beq_iff_eq, beq_eq_false_iff_ne, Int.natCast_inj, ne_eq] at h
  · (conv => whnf); exact ⟨by simp [alikeB, h], Agr.refl _ _⟩
  have hcd : (c == d) = false := by simpa using h
  (conv => whnf)
  refine VLoop.mk [14] (fun k : Nat => [.int .i64 k]) (fun k H' => H' = H ∧ k ≤ next.length ∧ (next.take k).all (fun row => row[c]? == row[d]?) = true) (fun k _ => next.length - k) ?_ ?_
  · (conv => whnf); exact ⟨0, rfl, rfl, by omega, rfl⟩
  · rintro k H1 junk ⟨rfl, hk, hall⟩
    (conv => whnf); refine VIte.mk (fun h => ?_) (fun h => ?_) <;> simp only [decide_eq_true_eq, decide_eq_false_iff_not] at h
    · obtain ⟨row, hrow⟩ := get_some (l := next) (k := k) (by omega)
      have hlen := hm row (List.mem_of_getElem? hrow)
      (conv => whnf); refine ixr sl23 hn hrow rfl ?_
      rintro b o cs hSb hcells ⟨ra, rc, rfl, hr⟩
      (conv => whnf); refine ld1 ct33 hcells.one trivial ?_
      (conv => whnf); refine VDraw.lex rfl (by kernel_rfl) ?_
      obtain ⟨x, hx⟩ := get_some (l := row) (k := c) (by omega)
      obtain ⟨y, hy⟩ := get_some (l := row) (k := d) (by omega)
      (conv => whnf); refine ixr sl33 hr hx rfl ?_
      rintro b2 o2 cs2 hSb2 hcells2 ⟨rfl, hxk⟩
      (conv => whnf); refine ld1 ct3 hcells2.one trivial ?_
      (conv => whnf); refine ixr sl33 hr hy rfl ?_
      rintro b3 o3 cs3 hSb3 hcells3 ⟨rfl, hyk⟩
      (conv => whnf); refine ld1 ct3 hcells3.one trivial ?_
      (conv => whnf); refine VIte.mk (fun h => ?_) (fun h => ?_) <;> simp only [bne_iff_ne, ne_eq, bne_eq_false_iff_eq] at h
      · (conv => whnf)
        refine ⟨?_, Agr.refl _ _⟩
        have : (next.all fun row => row[c]? == row[d]?) = false := by
          rw [List.all_eq_false]
          exact ⟨row, List.mem_of_getElem? hrow, by simp [hx, hy, h]⟩
        simp only [alikeB, hcd, this, Bool.or_false]
      · (conv => whnf); rw [w64 (x := (k : Int) + 1) (by omega) (by omega)]
        refine ⟨rfl, k + 1, by simp, ⟨rfl, by omega, ?_⟩, by omega⟩
        rw [take_succ_snoc hrow, List.all_append, hall]
        simp [hx, hy, h]
    · have hk' : k = next.length := by omega
      subst hk'
      rw [List.take_length] at hall
      (conv => whnf); exact ⟨by simp only [alikeB, hcd, hall, Bool.false_or], Agr.refl _ _⟩

end Go.Proofs.YthomdogheamfpaaDoor
/- What merge makes. -/
set_option linter.unusedVariables false
set_option linter.unusedSimpArgs false
set_option maxRecDepth 100000
namespace Go.Proofs.YthomdogheamfpaaDoor
open Go.VC

/-- The cells of an Auto. -/
def autoL (cv : Value) (cell : List Nat) (nv fv av : Value) : List Value :=
  cv :: (cell.map (fun n : Nat => Value.int .u8 (n : Int)) ++ List.replicate (256 - cell.length) (.int .u8 0)) ++ [nv, fv, av]
section
variable {cv nv fv av x : Value} {cell : List Nat}
theorem autoL_len (h : cell.length ≤ 256) : (autoL cv cell nv fv av).length = 260 := by simp [autoL]; omega
theorem autoL_0 : (autoL cv cell nv fv av)[0]? = some cv := by simp [autoL]
theorem autoL_set0 : (autoL cv cell nv fv av).set 0 x = autoL x cell nv fv av := by simp [autoL]
theorem autoL_get (h : cell.length ≤ 256) (j : Nat) : (autoL cv cell nv fv av)[257 + j]? = [nv, fv, av][j]? := by
  unfold autoL
  rw [List.cons_append, show 257 + j = (256 + j) + 1 by omega, List.getElem?_cons_succ, List.getElem?_append_right (by simp; omega)]
  congr 1
  simp; omega
theorem autoL_257 (h : cell.length ≤ 256) : (autoL cv cell nv fv av)[257]? = some nv := autoL_get h 0
theorem autoL_258 (h : cell.length ≤ 256) : (autoL cv cell nv fv av)[258]? = some fv := autoL_get h 1
theorem autoL_259 (h : cell.length ≤ 256) : (autoL cv cell nv fv av)[259]? = some av := autoL_get h 2
theorem autoL_setn (h : cell.length ≤ 256) (j : Nat) : (autoL cv cell nv fv av).set (257 + j) x = cv :: (cell.map (fun n : Nat => Value.int .u8 (n : Int)) ++ List.replicate (256 - cell.length) (.int .u8 0)) ++ [nv, fv, av].set j x := by
  unfold autoL
  rw [List.cons_append, show 257 + j = (256 + j) + 1 by omega, List.set_cons_succ, List.set_append_right (h := by simp; omega)]
  have e : 256 + j - (List.map (fun n : Nat => Value.int .u8 (n : Int)) cell ++ List.replicate (256 - cell.length) (Value.int .u8 0)).length = j := by simp; omega
  rw [e]; rfl
theorem autoL_set257 (h : cell.length ≤ 256) : (autoL cv cell nv fv av).set 257 x = autoL cv cell x fv av := autoL_setn h 0
theorem autoL_set259 (h : cell.length ≤ 256) : (autoL cv cell nv fv av).set 259 x = autoL cv cell nv fv x := autoL_setn h 2
theorem autoL_cell (h : cell.length < 256) (p : Nat) : (autoL cv cell nv fv av).set (1 + cell.length) (.int .u8 (p : Int)) = autoL cv (cell ++ [p]) nv fv av := by
  unfold autoL
  rw [List.cons_append, show 1 + cell.length = cell.length + 1 by omega, List.set_cons_succ, List.append_assoc, List.set_append_right (h := by simp)]
  have e : cell.length - (List.map (fun n : Nat => Value.int .u8 (n : Int)) cell).length = 0 := by simp
  rw [e, show 256 - cell.length = (256 - (cell.length + 1)) + 1 by omega, List.replicate_succ]
  simp
end

/-- The row that merge makes of a row. -/
def rowOf (cols : List Nat) (row : List Int) : List Int := cols.map fun c => row.getD c 0

set_option maxHeartbeats 4000000 in
theorem merge_c (pb : Nat) (fv av : Value) (ca na : Option Addr) (cc nc : Nat) (cells : List (BitVec 256)) (next : List (List Int)) (fl : Nat) (S : Nat → Prop) (H : Heap) (hS : ∀ k, S k → k < H.size ∧ k ≠ pb)
    (hb : Blk H pb 127 (autoL (.slice none 0 0) [] (.slice none 0 0) fv av)) (hc : SlD tSet S H ca cc cells) (hn : SlD tRows S H na nc next) (hs : soundB cells next fl = true) :
    FnOk Tryd.prog 92 #[.pointer (some ⟨pb, 0, none⟩), .slice ca cells.length cc, .slice na next.length nc] H fun v H' =>
      let st := mRun next cells (fun b => spanS b b) 256
      Agr (fun k => k < H.size ∧ k ≠ pb) H H' ∧ H.size ≤ H'.size ∧ ∃ ac capc an capn, Blk H' pb 127 (autoL (.slice ac st.sets.length capc) st.cell (.slice an next.length capn) fv av) ∧
        SlD tSet (fun k => H.size ≤ k ∧ k < H'.size) H' ac capc st.sets ∧ SlD tRows (fun k => H.size ≤ k ∧ k < H'.size) H' an capn (next.map (rowOf st.cols)) := by
  have lc := hc.le
  have ln := hn.le
  unfold maxLen at lc ln
  obtain ⟨n1, n2, n3, hrows⟩ := soundB_rows hs
  refine FnOk.of_vc Tryd.func92 rfl (Tryd.call92 _) ?_
  have hpb := hb.lt
  generalize hsp : (fun b => spanS b b) = sp
  have hcell : ∀ b, b < 256 → cellOf cells b < cells.length := fun b hb => (soundB_cells hs hb).1
  (conv => whnf); refine vmake1 sl23 rfl (by omega) (by omega) (by omega) (by omega) ?_
  intro nb H1 hnb hs1 hb1 ha1
  (conv => whnf); refine fa fl127_2 ?_
  (conv => whnf); refine st1 ct23 (hb.agr ha1 (show pb < nb by omega)) (by rw [autoL_len (by simp)]; omega) rfl ?_
  intro H2 hb2 ha2 hs2
  rw [Nat.zero_add, autoL_set257 (by simp)] at hb2
  replace hb1 := hb1.agr ha2 (show nb ≠ pb by omega)
  rw [Int.toNat_natCast] at hb1
  have hA2 : Agr (fun k => k < H.size ∧ k ≠ pb) H H2 := (ha1.mono fun k hk => by omega).trans (ha2.mono fun k hk => hk.2)
  (conv => whnf)
  refine VLoop.mk [6, 22] (fun x : Nat × Value => [x.2, .int .i64 x.1]) (fun x H3 => x.1 ≤ 256 ∧ Agr (fun k => k < H.size ∧ k ≠ pb) H H3 ∧ H2.size ≤ H3.size ∧
    SlO tI (fun _ => False) H3 (nb + 1) 3 x.2 ((mRun next cells sp x.1).cols.map Nat.cast) ∧ Blk H3 nb 33 (List.replicate next.length (.slice none 0 0)) ∧
    ∃ cv, SlO tSet (fun _ => False) H3 (nb + 1) 73 cv (mRun next cells sp x.1).sets ∧ (∀ k, slB x.2 k → ¬ slB cv k) ∧
      Blk H3 pb 127 (autoL cv (mRun next cells sp x.1).cell (.slice (some ⟨nb, 0, none⟩) next.length next.length) fv av)) (fun x _ => 256 - x.1) ?_ ?_
  · (conv => whnf)
    exact ⟨(0, _), rfl, by omega, hA2, Nat.le_refl _, SlO.nil, hb1, _, SlO.nil, (by rintro k ⟨o, n, c, h⟩; cases h), hb2⟩
  · rintro ⟨b, v6⟩ H3 junk ⟨hb256, hA3, hs3, hcols, hb3n, cv, hsets, hdis, hb3⟩
    dsimp only at hb256 hcols hsets hdis hb3
    obtain ⟨ac, capc, rfl, -, -⟩ := hcols.view (S' := fun k => slB v6 k) (fun k hk => hk) (fun k hk => hk.elim)
    (conv => whnf); refine VIte.mk (fun h => ?_) (fun h => ?_) <;> simp only [decide_eq_true_eq, decide_eq_false_iff_not] at h
    · have hok := mRun_ok (next := next) (sp := sp) hcell b (by omega)
      generalize hst : mRun next cells sp b = st at *
      obtain ⟨hfb, hfhas⟩ := soundB_cells hs (b := b) (by omega)
      (conv => whnf)
      -- the cell of b
      refine VLoop.mk [8] (fun f : Nat => [.int .i64 f]) (fun f H4 => Agr (Old H3) H3 H4 ∧ f ≤ cellOf cells b) (fun f _ => cells.length - f) ?_ ?_
      · (conv => whnf); exact ⟨0, rfl, Agr.refl _ _, by omega⟩
      · rintro f H4 junk2 ⟨ha4, hf⟩
        have hA4 : Agr (fun k => k < H.size ∧ k ≠ pb) H H4 := hA3.trans (ha4.mono fun k hk => by unfold Old; omega)
        obtain ⟨c, hcf⟩ := get_some (l := cells) (k := f) (by omega)
        (conv => whnf); refine ixr sl83 (hc.frame (hA4.mono fun k hk => hS k hk)) hcf rfl ?_
        rintro b' o cs hSb hcells rfl
        (conv => whnf); refine ldN (cs := setL c) ag73 hcells trivial ?_
        (conv => whnf); rw [w8 (x := (b : Int)) (by omega) (by omega)]
        refine pures (has_c c b (by omega) H4) ?_
        intro H5 ha5
        have hs34 := old_size ha4
        have ha35 : Agr (Old H3) H3 H5 := ha4.trans (ha5.mono fun k hk => by unfold Old at *; omega)
        by_cases hfeq : f = cellOf cells b
        · have hbit : c.getLsbD b = true := hfhas c (hfeq ▸ hcf)
          rw [hbit]
          (conv => whnf)
          subst hfeq
          generalize hfr : cellOf cells b = fr at *
          have hcols5 := hcols.agr ha35 (fun k hk => (hcols.lt hk).2) (fun k hk => hk.elim)
          have hs35 := old_size ha35
          -- the columns
          refine VSeq.cut [9] (fun pl : Option Nat => [.int .i64 (match pl with | none => -1 | some i => (i : Int))]) (fun pl H6 => pl = mFind next st.cols fr ∧ Agr (Old H5) H5 H6) ?_ ?_
          · obtain ⟨ac', capc', he, hview, hblk⟩ := hcols5.view (S' := Old H5) (fun k hk => (hcols5.lt hk).2) (fun k hk => hk.elim)
            cases he
            have hrl : ∀ row ∈ next, row.length = cells.length := fun row hr => (hrows row hr).1
            (conv => whnf)
            refine VLoop.mk [9, 37] (fun k : Nat => [.int .i64 (-1), .int .i64 k]) (fun k H6 => Agr (Old H5) H5 H6 ∧ k ≤ st.cols.length ∧ (st.cols.take k).findIdx? (fun c => alikeB next c fr) = none) (fun k _ => st.cols.length - k) ?_ ?_
            · (conv => whnf); exact ⟨0, rfl, Agr.refl _ _, by omega, rfl⟩
            · rintro k H6 junk3 ⟨ha6, hk, hnone⟩
              have hle := hok.le
              (conv => whnf); rw [List.length_map]; refine VIte.mk (fun h => ?_) (fun h => ?_) <;> simp only [decide_eq_true_eq, decide_eq_false_iff_not] at h
              · obtain ⟨c0, hc0⟩ := get_some (l := st.cols) (k := k) (by omega)
                have hc0m := hok.cols c0 (List.mem_of_getElem? hc0)
                (conv => whnf); refine ixrn (x := (c0 : Int)) sl33 (hview.frame ha6) (by simp) (by simp [hc0]) rfl ?_
                rintro b2 o2 cs2 hSb2 hcells2 ⟨rfl, -⟩
                (conv => whnf); refine ld1 ct3 hcells2.one trivial ?_
                have hn6 : SlD tRows S H6 na nc next := hn.frame ((hA3.trans ((ha35.trans (ha6.mono fun k hk => by unfold Old at *; omega)).mono fun k hk => by unfold Old; omega)).mono fun k hk => hS k hk)
                (conv => whnf); refine pures (alike_p na nc c0 fr cells.length next S H6 hn6 hrl hc0m hfb (by omega)) ?_
                intro H7 ha7
                have hs56 := old_size ha6
                have ha57 : Agr (Old H5) H5 H7 := ha6.trans (ha7.mono fun k hk => by unfold Old at *; omega)
                (conv => whnf); refine VIte.mk (fun h7 => ?_) (fun h7 => ?_)
                · (conv => whnf)
                  refine ⟨rfl, some k, rfl, ?_, ha57⟩
                  unfold mFind
                  rw [← List.take_append_drop k st.cols, List.findIdx?_append, hnone]
                  have : st.cols.drop k = c0 :: st.cols.drop (k + 1) := by
                    rw [List.getElem?_eq_some_iff] at hc0
                    obtain ⟨h1, h2⟩ := hc0
                    rw [List.drop_eq_getElem_cons h1, h2]
                  rw [this, List.findIdx?_cons, h7]
                  simp; omega
                · (conv => whnf); rw [w64 (x := (k : Int) + 1) (by omega) (by omega)]
                  refine ⟨rfl, k + 1, by simp, ⟨ha57, by omega, ?_⟩, by omega⟩
                  rw [take_succ_snoc hc0, List.findIdx?_append, hnone]
                  simp [h7]
              · (conv => whnf)
                refine ⟨rfl, none, rfl, ?_, ha6⟩
                have : k = st.cols.length := by omega
                subst this
                rw [List.take_length] at hnone
                exact hnone.symm
          · rintro pl H6 junk3 ⟨hpl, ha6⟩
            have ha36 : Agr (Old H3) H3 H6 := ha35.trans (ha6.mono fun k hk => by unfold Old at *; omega)
            have hs36 := old_size ha36
            have hcols6 := hcols.agr ha36 (fun k hk => (hcols.lt hk).2) (fun k hk => hk.elim)
            have hsets6 := hsets.agr ha36 (fun k hk => (hsets.lt hk).2) (fun k hk => hk.elim)
            have hb6n := hb3n.agr ha36 hb3n.lt
            have hb6 := hb3.agr ha36 hb3.lt
            have hA6 : Agr (fun k => k < H.size ∧ k ≠ pb) H H6 := hA3.trans (ha36.mono fun k hk => by unfold Old; omega)
            have hcl : st.cell.length ≤ 256 := by rw [hok.cell]; omega
            (conv => whnf)
            refine VSeq.cut [6, 9] (fun x : Value × Nat => [x.1, .int .i64 x.2]) (fun x H7 => Agr (fun k => k < H.size ∧ k ≠ pb) H H7 ∧ H2.size ≤ H7.size ∧ x.2 = (mNew next st.cols st.sets fr).2.2 ∧
              SlO tI (fun _ => False) H7 (nb + 1) 3 x.1 ((mNew next st.cols st.sets fr).1.map Nat.cast) ∧ Blk H7 nb 33 (List.replicate next.length (.slice none 0 0)) ∧
              ∃ cv, SlO tSet (fun _ => False) H7 (nb + 1) 73 cv (mNew next st.cols st.sets fr).2.1 ∧ (∀ k, slB x.1 k → ¬ slB cv k) ∧
                Blk H7 pb 127 (autoL cv st.cell (.slice (some ⟨nb, 0, none⟩) next.length next.length) fv av)) ?_ ?_
            · cases hf : mFind next st.cols fr with
              | some i =>
                rw [hpl, hf]
                have hm : mNew next st.cols st.sets fr = (st.cols, st.sets, i) := by unfold mNew; rw [hf]
                rw [hm]
                (conv => whnf)
                exact ⟨rfl, (_, i), rfl, hA6, by omega, rfl, hcols6, hb6n, cv, hsets6, hdis, hb6⟩
              | none =>
                rw [hpl, hf]
                have hm : mNew next st.cols st.sets fr = (st.cols ++ [fr], st.sets ++ [0#256], st.cols.length) := by unfold mNew; rw [hf]
                rw [hm]
                (conv => whnf); rw [List.length_map]; refine vbuild1 sl33 [.int .i64 (fr : Int)] rfl rfl (by decide) (by decide) ?_
                intro q H7 hq hs7 hb7 ha7
                have hle := hok.le
                have hcols7 := hcols6.agr ha7 (fun k hk => by have := (hcols6.lt hk).2; omega) (fun k hk => hk.elim)
                (conv => whnf); refine vappendO (T := tI) (S := fun _ => False) (ys := [(fr : Int)]) (ds := [.int .i64 (fr : Int)]) (lo := nb + 1) (xs := st.cols.map Nat.cast) sl33 (by simpa using hcols7) (by omega) (fun k hk => hk.elim)
                  (hb7.cells (fun j v hv => by simpa using hv)) (Ty.reps_one ⟨rfl, inI64 (by omega)⟩) rfl (by intro u hu; cases List.mem_singleton.1 hu; rfl) (by simp only [maxLen, List.length_map, List.length_singleton]; omega) (by simp only [List.length_map, List.length_singleton]; omega) ?_
                intro v8 H8 hcols8 ha8 hs8 hfresh8
                have hold8 : ∀ k, k < H6.size → ¬ slB (.slice ac (st.cols.map (Nat.cast : Nat → Int)).length capc) k → H8[k]? = H6[k]? := fun k h1 h2 => by
                  rw [ha8 k ⟨by omega, by simpa using h2⟩, ha7 k (by omega)]
                have hsets8 : SlO tSet (fun _ => False) H8 (nb + 1) 73 cv st.sets := hsets6.agr (S' := fun k => k < H6.size ∧ ¬ slB (.slice ac (st.cols.map (Nat.cast : Nat → Int)).length capc) k) (fun k hk => hold8 k hk.1 hk.2)
                  (fun k hk => ⟨(hsets6.lt hk).2, fun h => hdis k h hk⟩) (fun k hk => hk.elim)
                have hnlt : ∀ k, k ≤ nb → ¬ slB (.slice ac (st.cols.map (Nat.cast : Nat → Int)).length capc) k := fun k hk h => by have := (hcols6.lt h).1; omega
                have hb8n := hb6n.eq (hold8 nb hb6n.lt (hnlt nb (by omega)))
                have hb8 := hb6.eq (hold8 pb hb6.lt (hnlt pb (by omega)))
                (conv => whnf); refine fa fl127_0 ?_
                (conv => whnf); refine ld1 (v := cv) ct83 (by rw [hb8.cell]; exact autoL_0) trivial ?_
                (conv => whnf); refine vbuildA ar73 (setV 0) rfl (setL 0) rfl ?_
                (conv => whnf); refine vbuild1 sl83 (setL 0) rfl rfl (by decide) (by decide) ?_
                intro q2 H9 hq2 hs9 hb9 ha9
                have hlt8 := hb8.lt
                have hlt8n := hb8n.lt
                (conv => whnf); refine vappendO (T := tSet) (S := fun _ => False) (ys := [0#256]) (ds := setL 0) (lo := nb + 1) (xs := st.sets) sl83 (hsets8.agr ha9 (fun k hk => by have := (hsets8.lt hk).2; omega) (fun k hk => hk.elim)) (by omega) (fun k hk => hk.elim)
                  (hb9.cells (fun j v hv => by simpa using hv)) (Ty.reps_one rfl) rfl (by intro u hu; simp only [setL, List.mem_cons, List.not_mem_nil, or_false] at hu; rcases hu with rfl | rfl | rfl | rfl <;> rfl)
                  (by have := hok.len; simp only [maxLen, List.length_singleton]; omega) (by have := hok.len; simp only [List.length_singleton]; omega) ?_
                intro v9 H10 hsets10 ha10 hs10 hfresh10
                have hdcv : ∀ k, k ≤ nb → ¬ slB cv k := fun k hk h => by have := (hsets6.lt h).1; omega
                have hb10 := (hb8.agr ha9 (by omega)).agr ha10 ⟨by omega, hdcv pb (by omega)⟩
                (conv => whnf); refine fa fl127_0 ?_
                (conv => whnf); refine st1 ct83 hb10 (by rw [autoL_len hcl]; omega) hsets10.one ?_
                intro H11 hb11 ha11 hs11
                (conv => whnf)
                have hcols8lt : ∀ k, slB v8 k → k < H8.size ∧ nb + 1 ≤ k := fun k hk => ⟨(hcols8.lt hk).2, (hcols8.lt hk).1⟩
                have hdis8 : ∀ k, slB v8 k → ¬ slB cv k := fun k hk hc => by
                  rcases hfresh8 k hk with h | h
                  · exact hdis k (by simpa using h) hc
                  · have := (hsets6.lt hc).2; omega
                have hcols10 := (hcols8.agr ha9 (fun k hk => by have := hcols8lt k hk; omega) (fun k hk => hk.elim)).agr ha10 (fun k hk => ⟨by have := hcols8lt k hk; omega, hdis8 k hk⟩) (fun k hk => hk.elim)
                have hb10n := (hb8n.agr ha9 (by omega)).agr ha10 ⟨by omega, hdcv nb (by omega)⟩
                refine ⟨rfl, (v8, st.cols.length), rfl, ?_, by omega, rfl, ?_, hb10n.agr ha11 (by omega), v9, hsets10.agr ha11 (fun k hk => by have := (hsets10.lt hk).1; omega) (fun k hk => hk.elim), ?_, ?_⟩
                · intro k hk
                  rw [ha11 k hk.2, ha10 k ⟨by omega, hdcv k (by omega)⟩, ha9 k (by omega), hold8 k (by omega) (hnlt k (by omega)), hA6 k hk]
                · have := hcols10.agr ha11 (fun k hk => by have := hcols8lt k hk; omega) (fun k hk => hk.elim)
                  simpa using this
                · intro k hk hk9
                  rcases hfresh10 k hk9 with h | h
                  · exact hdis8 k hk h
                  · have := hcols8lt k hk; omega
                · rw [Nat.add_zero, autoL_set0] at hb11; exact hb11
            · rintro ⟨v7, p⟩ H7 junk4 ⟨hA7, hs7, hp, hcols7, hb7n, cv7, hsets7, hdis7, hb7⟩
              dsimp only at hp hcols7 hdis7
              have hok2 := mNew_ok (next := next) hok.len hok.le hok.cols hfb
              have hmr : mRun next cells sp (b + 1) = mStep next cells st b (sp b) := by rw [← hst]; rfl
              generalize hr : mNew next st.cols st.sets fr = r at *
              obtain ⟨cols', sets', p'⟩ := r
              dsimp only at hp hcols7 hsets7 hok2
              subst hp
              obtain ⟨h21, h22, h23, h24, h25⟩ := hok2
              have hmr2 : mRun next cells sp (b + 1) = ⟨cols', sets'.set p (sets'.getD p 0#256 ||| sp b), st.cell ++ [p]⟩ := by
                rw [hmr]; unfold mStep; rw [hfr, hr]
              obtain ⟨bq, capq, lq, csq, rfl, hloq, hblkq, hlenq, hgetq, hrepsq, hputq⟩ := hsets7.place (i := p) (by omega)
              have hpb7 := hb7.lt
              (conv => whnf); refine fa fl127_1 ?_
              (conv => whnf); refine ixa ar125 (by omega) (by omega) ?_
              rw [w8 (x := (p : Int)) (by omega) (by omega)]
              (conv => whnf); refine st1 ct5 hb7 (by rw [autoL_len hcl]; omega) rfl ?_
              intro H8 hb8 ha8 hs8
              rw [show 0 + 1 + (b : Int).toNat * 1 = 1 + st.cell.length by rw [hok.cell]; omega, autoL_cell (by rw [hok.cell]; omega)] at hb8
              (conv => whnf)
              refine VDraw.held (Old H8) 19 (sq [0,1,2,3,4,5,6,7,8,9,10,11,12,13,14,15] (.f 16 (.f 17 (sq [18] (.f 19 .e))))) rfl (by kernel_rfl) ?_
              (conv => whnf); refine fa fl127_0 ?_
              (conv => whnf); refine ld1 (v := .slice (some ⟨bq, 0, none⟩) sets'.length capq) ct83 (by rw [hb8.cell]; exact autoL_0) (show pb < H8.size by omega) ?_
              (conv => whnf); refine fa fl127_0 ?_
              (conv => whnf); refine ld1 (v := .slice (some ⟨bq, 0, none⟩) sets'.length capq) ct83 (by rw [hb8.cell]; exact autoL_0) (show pb < H8.size by omega) ?_
              (conv => whnf); refine ix sl83 (by omega) (by omega) ?_
              obtain ⟨x0, hx0⟩ := get_some (l := sets') (k := p) (by omega)
              obtain ⟨c0, hc0, rfl⟩ := hgetq x0 hx0
              have hbqb : bq ≠ pb := by omega
              (conv => whnf); refine ldN (cs := setL x0) ag73 (by rw [Nat.zero_add, Int.toNat_natCast]; exact hc0.eq (ha8 bq hbqb)) (show bq < H8.size by have := hblkq.lt; omega) ?_
              (conv => whnf); rw [w8 (x := (b : Int)) (by omega) (by omega)]
              refine pures (span_p b b (by omega) (by omega) H8) ?_
              intro H9 ha9
              refine ⟨ha9, ?_⟩
              (conv => whnf); refine pures (union_c x0 (spanS b b) H9) ?_
              intro H10 ha10
              have hs89 := old_size ha9
              have ha810 : Agr (Old H8) H8 H10 := ha9.trans (ha10.mono fun k hk => by unfold Old at *; omega)
              refine ⟨ha810, ?_⟩
              (conv => whnf); refine ix sl83 (by omega) (by omega) ?_
              have hs810 := old_size ha810
              have hblk10 := (hblkq.agr ha8 hbqb).agr ha810 (show bq < H8.size by have := hblkq.lt; omega)
              (conv => whnf); refine stN rfl hblk10 (by rw [Nat.zero_add, Int.toNat_natCast]; exact hlenq) rfl ?_
              intro H11 hb11 ha11 hs11
              (conv => whnf); rw [w64 (x := (b : Int) + 1) (by omega) (by omega)]
              have hlt7 : ∀ k, slB v7 k → nb + 1 ≤ k ∧ k < H7.size := fun k hk => hcols7.lt hk
              have hcols11 := ((hcols7.agr ha8 (fun k hk => by have := hlt7 k hk; omega) (fun k hk => hk.elim)).agr ha810 (fun k hk => by have := hlt7 k hk; unfold Old; omega) (fun k hk => hk.elim)).agr ha11
                (fun k hk hkb => by subst hkb; exact hdis7 _ hk ⟨0, _, _, rfl⟩) (fun k hk => hk.elim)
              have hb11n := (((hb7n.agr ha8 (show nb ≠ pb by omega)).agr ha810 (show nb < H8.size by have := hb7n.lt; omega)).agr ha11 (show nb ≠ bq by omega))
              have hb11p := (hb8.agr ha810 (show pb < H8.size by omega)).agr ha11 (show pb ≠ bq from Ne.symm hbqb)
              refine ⟨rfl, (b + 1, v7), by simp, ⟨by omega, ?_, by omega, ?_, hb11n, .slice (some ⟨bq, 0, none⟩) sets'.length capq, ?_, hdis7, ?_⟩, by omega⟩
              · intro k hk
                rw [ha11 k (by omega), ha810 k (by unfold Old; omega), ha8 k hk.2, hA7 k hk]
              · rw [hmr2]; exact hcols11
              · rw [hmr2]
                have hg : sets'.getD p 0#256 = x0 := by rw [List.getD_eq_getElem?_getD, hx0]; rfl
                rw [hg, ← hsp]
                rw [Nat.zero_add, Int.toNat_natCast] at hb11
                have := hputq H11 (setL (x0 ||| spanS b b)) (x0 ||| spanS b b) hb11 (fun k hk => hk.elim) rfl
                exact this
              · rw [hmr2]; exact hb11p
        · have hbit : c.getLsbD b = false := cellOf_before (by omega) hcf
          rw [hbit]
          (conv => whnf); rw [w64 (x := (f : Int) + 1) (by omega) (by omega)]
          exact ⟨rfl, f + 1, by simp, ⟨ha35, by omega⟩, by omega⟩
    · have hb' : b = 256 := by omega
      subst hb'
      have hok := mRun_ok (next := next) (sp := sp) hcell 256 (by omega)
      generalize hst : mRun next cells sp 256 = st at *
      have hlec := hok.le
      have hlen := hok.len
      (conv => whnf)
      refine VLoop.mk [95] (fun q : Nat => [.int .i64 q]) (fun q H4 => q ≤ next.length ∧ Agr (fun k => k < H3.size ∧ k ≠ nb) H3 H4 ∧ H3.size ≤ H4.size ∧ ∃ vs : List Value, vs.length = next.length ∧ Blk H4 nb 33 vs ∧
        (∀ i, q ≤ i → i < next.length → vs[i]? = some (.slice none 0 0)) ∧ ∀ i v row, i < q → vs[i]? = some v → next[i]? = some row → SlO tI (fun _ => False) H4 H3.size 3 v (rowOf st.cols row)) (fun q _ => next.length - q) ?_ ?_
      · (conv => whnf)
        refine ⟨0, rfl, by omega, Agr.refl _ _, Nat.le_refl _, _, by simp, hb3n, fun i _ hi => by simp [hi], fun i v row hi => by omega⟩
      · rintro q H4 junk2 ⟨hq, ha4, hs4, vs, hvl, hb4n, hnil, hdone⟩
        have hnb3 := hb3n.lt
        have hpb3 := hb3.lt
        have hA4 : Agr (fun k => k < H.size ∧ k ≠ pb) H H4 := hA3.trans (ha4.mono fun k hk => by omega)
        (conv => whnf); refine VIte.mk (fun h => ?_) (fun h => ?_) <;> simp only [decide_eq_true_eq, decide_eq_false_iff_not] at h
        · obtain ⟨row, hrow⟩ := get_some (l := next) (k := q) (by omega)
          obtain ⟨hrl, hrq⟩ := hrows row (List.mem_of_getElem? hrow)
          have hn4 := hn.frame (hA4.mono fun k hk => hS k hk)
          (conv => whnf); refine ixr sl23 hn4 hrow rfl ?_
          rintro b2 o2 cs2 hSb2 hcells2 ⟨ra, rc, rfl, hr⟩
          (conv => whnf); refine ld1 ct33 hcells2.one trivial ?_
          (conv => whnf); rw [List.length_map]
          refine VLoop.mk [102] (fun j : Nat => [.int .i64 j]) (fun j H5 => j ≤ st.cols.length ∧ Agr (fun k => k < H4.size ∧ k ≠ nb) H4 H5 ∧ H4.size ≤ H5.size ∧ ∃ vcur, Blk H5 nb 33 (vs.set q vcur) ∧
            SlO tI (fun _ => False) H5 H4.size 3 vcur (rowOf (st.cols.take j) row)) (fun j _ => st.cols.length - j) ?_ ?_
          · (conv => whnf)
            refine ⟨0, rfl, by omega, Agr.refl _ _, Nat.le_refl _, .slice none 0 0, ?_, SlO.nil⟩
            have : vs.set q (.slice none 0 0) = vs := by
              have h1 := hnil q (Nat.le_refl _) (by omega)
              rw [List.getElem?_eq_some_iff] at h1
              obtain ⟨h2, h3⟩ := h1
              rw [← h3]; exact List.set_getElem_self h2
            rw [this]; exact hb4n
          · rintro j H5 junk3 ⟨hj, ha5, hs5, vcur, hb5n, hcur⟩
            have hA35 : Agr (fun k => k < H3.size ∧ k ≠ nb) H3 H5 := ha4.trans (ha5.mono fun k hk => by omega)
            have hb5 := hb3.agr hA35 ⟨hpb3, by omega⟩
            have hcols5 := hcols.agr hA35 (fun k hk => by have := hcols.lt hk; omega) (fun k hk => hk.elim)
            obtain ⟨av5, capv5, he5, hview, hblk⟩ := hcols5.view (S' := fun k => k < H3.size) (fun k hk => (hcols.lt hk).2) (fun k hk => hk.elim)
            cases he5
            (conv => whnf); refine VIte.mk (fun h => ?_) (fun h => ?_) <;> simp only [decide_eq_true_eq, decide_eq_false_iff_not] at h
            · obtain ⟨c0, hc0⟩ := get_some (l := st.cols) (k := j) (by omega)
              have hc0m := hok.cols c0 (List.mem_of_getElem? hc0)
              (conv => whnf); refine ixrn (x := (c0 : Int)) sl33 hview (by simp) (by simp [hc0]) rfl ?_
              rintro b3 o3 cs3 hSb3 hcells3 ⟨rfl, -⟩
              (conv => whnf); refine ld1 ct3 hcells3.one trivial ?_
              obtain ⟨acu, capcu, rfl, -, -⟩ := hcur.view (S' := fun k => slB vcur k) (fun k hk => hk) (fun k hk => hk.elim)
              (conv => whnf)
              refine VDraw.held (fun k => k < H4.size) 19 (sq [0,1,2,3,4,5,6,7,8,9,10,11,12,13,14,15] (.f 16 (.f 17 (sq [18] (.f 19 .e))))) rfl (by kernel_rfl) ?_
              have hb5nq : cell H5 nb (0 + (q : Int).toNat * 1) = some (.slice acu (rowOf (st.cols.take j) row).length capcu) := by
                rw [hb5n.cell, show 0 + (q : Int).toNat * 1 = q by omega, List.getElem?_set_self (by omega)]
              have hr5 := hr.frame (ha5.mono fun k hk => by have := hS k hk; omega)
              have hv257 : cell H5 pb (0 + 257) = some (.slice (some ⟨nb, 0, none⟩) next.length next.length) := by
                rw [hb5.cell, Nat.zero_add]; exact autoL_257 (by rw [hok.cell]; omega)
              (conv => whnf); refine fa fl127_2 ?_
              (conv => whnf); refine ld1 ct23 hv257 (show pb < H4.size by omega) ?_
              (conv => whnf); refine fa fl127_2 ?_
              (conv => whnf); refine ld1 ct23 hv257 (show pb < H4.size by omega) ?_
              (conv => whnf); refine ix sl23 (by omega) (by omega) ?_
              (conv => whnf); refine ld1 ct33 hb5nq (show nb < H4.size by omega) ?_
              obtain ⟨x0, hx0⟩ := get_some (l := row) (k := c0) (by omega)
              (conv => whnf); refine ixr sl33 hr5 hx0 rfl ?_
              rintro b4 o4 cs4 hSb4 hcells4 ⟨rfl, hx0k⟩
              (conv => whnf); refine ld1 ct3 hcells4.one (show b4 < H4.size by have := hS b4 hSb4; omega) ?_
              (conv => whnf); refine vbuild1 sl33 [.int .i64 x0] rfl rfl (by decide) (by decide) ?_
              intro q6 H6 hq6 hs6 hb6 ha6
              refine ⟨ha6.mono fun k hk => by omega, ?_⟩
              have hcur6 := hcur.agr ha6 (fun k hk => by have := (hcur.lt hk).2; omega) (fun k hk => hk.elim)
              have hrl2 : (rowOf (st.cols.take j) row).length ≤ 256 := by simp [rowOf]; omega
              (conv => whnf); refine vappendO (T := tI) (S := fun _ => False) (ys := [x0]) (ds := [.int .i64 x0]) (lo := H4.size) (xs := rowOf (st.cols.take j) row) sl33 hcur6 (by omega) (fun k hk => hk.elim)
                  (hb6.cells (fun j v hv => by simpa using hv)) (Ty.reps_one ⟨rfl, hx0k⟩) rfl (by intro u hu; cases List.mem_singleton.1 hu; rfl) (by simp only [maxLen, List.length_singleton]; omega) (by simp only [List.length_singleton]; omega) ?_
              intro v7 H7 hcur7 ha7 hs7 hfresh7
              refine ⟨fun k hk => ?_, ?_⟩
              · rw [ha7 k ⟨by omega, fun h => by have := (hcur.lt h).1; omega⟩, ha6 k (by omega)]
              have hb7n := (hb5n.agr ha6 (by omega)).agr ha7 ⟨by omega, fun h => by have := (hcur.lt h).1; omega⟩
              (conv => whnf); refine ix sl23 (by omega) (by omega) ?_
              (conv => whnf); refine st1 ct33 hb7n (by simp; omega) hcur7.one ?_
              intro H8 hb8 ha8 hs8
              (conv => whnf); rw [w64 (x := (j : Int) + 1) (by omega) (by omega)]
              refine ⟨rfl, j + 1, by simp, ⟨by omega, ?_, by omega, v7, ?_, ?_⟩, by omega⟩
              · intro k hk
                rw [ha8 k hk.2, ha7 k ⟨by omega, fun h => by have := (hcur.lt h).1; omega⟩, ha6 k (by omega), ha5 k hk]
              · rw [show 0 + (q : Int).toNat * 1 = q by omega, List.set_set] at hb8
                exact hb8
              · have := hcur7.agr ha8 (fun k hk => by have := (hcur7.lt hk).1; omega) (fun k hk => hk.elim)
                have e1 : rowOf (st.cols.take (j + 1)) row = rowOf (st.cols.take j) row ++ [x0] := by
                  unfold rowOf
                  rw [take_succ_snoc hc0, List.map_append]
                  simp [hx0]
                rw [e1]; exact this
            · have hj' : j = st.cols.length := by omega
              subst hj'
              rw [List.take_length] at hcur
              (conv => whnf); rw [w64 (x := (q : Int) + 1) (by omega) (by omega)]
              refine ⟨rfl, q + 1, by simp, ⟨by omega, hA35, by omega, vs.set q vcur, by simp [hvl], hb5n, ?_, ?_⟩, by omega⟩
              · intro i h1 h2
                rw [List.getElem?_set_ne (by omega)]
                exact hnil i (by omega) h2
              · intro i v row' hi hv hrow'
                by_cases hiq : i = q
                · subst hiq
                  rw [List.getElem?_set_self (by omega)] at hv
                  rw [hrow] at hrow'
                  cases hv; cases hrow'
                  exact hcur.lower (by omega)
                · rw [List.getElem?_set_ne (by omega)] at hv
                  have hd := hdone i v row' (by omega) hv hrow'
                  exact hd.agr ha5 (fun k hk => by have := hd.lt hk; omega) (fun k hk => hk.elim)
        · have hq' : q = next.length := by omega
          subst hq'
          (conv => whnf)
          have hs23 : H2.size ≤ H3.size := hs3
          obtain ⟨ac9, capc9, he9, hview9, -⟩ := (hsets.agr ha4 (fun k hk => by have := hsets.lt hk; omega) (fun k hk => hk.elim)).view (S' := fun k => H.size ≤ k ∧ k < H4.size)
            (fun k hk => by have := hsets.lt hk; omega) (fun k hk => hk.elim)
          subst he9
          refine ⟨hA4, by omega, ac9, capc9, some ⟨nb, 0, none⟩, next.length, hb3.agr ha4 ⟨hpb3, by omega⟩, hview9, SlD.intro (show H.size ≤ nb ∧ nb < H4.size by omega) (by simp) (by simp [maxLen]; omega) (hb4n.cells (cs := vs) (fun j v hv => by simpa using hv)) ?_⟩
          refine reps_of_ones (by simp [hvl]) fun i v x hv hx => ?_
          rw [List.getElem?_map] at hx
          obtain ⟨row, hrow, rfl⟩ := Option.map_eq_some_iff.1 hx
          have hd := hdone i v row (List.getElem?_eq_some_iff.1 hrow).1 hv hrow
          obtain ⟨a0, cap0, rfl, hv0, -⟩ := hd.view (S' := fun k => H.size ≤ k ∧ k < H4.size) (fun k hk => by have := hd.lt hk; omega) (fun k hk => hk.elim)
          exact ⟨a0, cap0, rfl, hv0⟩

end Go.Proofs.YthomdogheamfpaaDoor
/- What wake makes: the states from which a final one can be reached. -/
set_option linter.unusedVariables false
set_option linter.unusedSimpArgs false
set_option maxRecDepth 100000
namespace Go.Proofs.YthomdogheamfpaaDoor
open Go.VC

inductive LiveT (rows : List (List Int)) (fin : List Bool) : Nat → Prop
  | fin {q : Nat} : fin[q]? = some true → LiveT rows fin q
  | step {q t : Nat} {row : List Int} : rows[q]? = some row → (t : Int) ∈ row → LiveT rows fin t → LiveT rows fin q

/-- The predecessors that have been noted: of all rows before q, of row q before j. -/
def Noted (rows : List (List Int)) (q j t : Nat) (p : Int) : Prop := ∃ (q' : Nat) (row : List Int), p = (q' : Int) ∧ rows[q']? = some row ∧ (q' < q ∧ (t : Int) ∈ row ∨ q' = q ∧ (t : Int) ∈ row.take j)
def nF (al : List Bool) : Nat := al.count false
theorem nF_set {al : List Bool} {p : Nat} (h : al[p]? = some false) : nF (al.set p true) + 1 = nF al := by
  unfold nF
  induction al generalizing p with
  | nil => simp at h
  | cons a al ih =>
    cases p with
    | zero => simp at h; subst h; simp [List.count_cons]
    | succ p => simp at h; simp only [List.set_cons_succ, List.count_cons]; have := ih h; omega

/-- What the search keeps: al: marked; td: to be looked at; ex: the one that is being looked at, and how far. -/
structure WI (rows : List (List Int)) (final : List Bool) (bk : List (List Int)) (al : List Bool) (td : List Int) (ex : Option (Nat × Nat)) : Prop where
  len : al.length = rows.length
  sound : ∀ q : Nat, al[q]? = some true → LiveT rows final q
  fin : ∀ q : Nat, final[q]? = some true → al[q]? = some true
  tdok : ∀ x ∈ td, ∃ q : Nat, x = (q : Int) ∧ al[q]? = some true
  cnt : td.length + nF al ≤ rows.length
  closed : ∀ (q : Nat) (x : List Int), al[q]? = some true → bk[q]? = some x → (q : Int) ∈ td ∨ (∀ p ∈ x, al[p.toNat]? = some true) ∨ ∃ j, ex = some (q, j) ∧ ∀ p ∈ x.take j, al[p.toNat]? = some true
def BkOk (rows : List (List Int)) (bk : List (List Int)) : Prop := bk.length = rows.length ∧ ∀ (t : Nat) (x : List Int), bk[t]? = some x → ∀ p, p ∈ x ↔ ∃ (q' : Nat) (row : List Int), p = (q' : Int) ∧ rows[q']? = some row ∧ (t : Int) ∈ row
section
variable {rows : List (List Int)} {final : List Bool} {bk : List (List Int)} {al : List Bool} {td : List Int}
theorem WI.pop {q : Nat} (h : WI rows final bk al (td ++ [(q : Int)]) none) : WI rows final bk al td (some (q, 0)) := by
  refine ⟨h.len, h.sound, h.fin, fun x hx => h.tdok x (List.mem_append_left _ hx), by have := h.cnt; simp at this; omega, fun q' x hq' hx => ?_⟩
  rcases h.closed q' x hq' hx with h1 | h1 | ⟨j, h1, _⟩
  · rcases List.mem_append.1 h1 with h1 | h1
    · exact .inl h1
    · rw [List.mem_singleton] at h1
      have : q' = q := by omega
      subst this
      exact .inr (.inr ⟨0, rfl, by simp⟩)
  · exact .inr (.inl h1)
  · cases h1
theorem WI.skip {q j pn : Nat} {x : List Int} (h : WI rows final bk al td (some (q, j))) (hx : bk[q]? = some x) (hj : x[j]? = some (pn : Int)) (hp : al[pn]? = some true) : WI rows final bk al td (some (q, j + 1)) := by
  refine ⟨h.len, h.sound, h.fin, h.tdok, h.cnt, fun q' x' hq' hx' => ?_⟩
  rcases h.closed q' x' hq' hx' with h1 | h1 | ⟨j', h1, h2⟩
  · exact .inl h1
  · exact .inr (.inl h1)
  · cases h1
    rw [hx] at hx'; cases hx'
    refine .inr (.inr ⟨j + 1, rfl, fun p hp' => ?_⟩)
    rw [take_succ_snoc hj, List.mem_append, List.mem_singleton] at hp'
    rcases hp' with hp' | rfl
    · exact h2 p hp'
    · simpa using hp
theorem WI.mark {q j pn : Nat} {x : List Int} (hbk : BkOk rows bk) (h : WI rows final bk al td (some (q, j))) (hq : al[q]? = some true) (hx : bk[q]? = some x) (hj : x[j]? = some (pn : Int)) (hp : al[pn]? = some false) :
    WI rows final bk (al.set pn true) (td ++ [(pn : Int)]) (some (q, j + 1)) := by
  have hlt : pn < al.length := (List.getElem?_eq_some_iff.1 hp).1
  have keep : ∀ i, al[i]? = some true → (al.set pn true)[i]? = some true := fun i hi => by
    by_cases h1 : pn = i
    · subst h1; rw [List.getElem?_set_self hlt]
    · rw [List.getElem?_set_ne h1]; exact hi
  have live : LiveT rows final pn := by
    obtain ⟨q', row, h1, h2, h3⟩ := (hbk.2 q x hx (pn : Int)).1 (List.mem_of_getElem? hj)
    have : pn = q' := by omega
    subst this
    exact .step h2 h3 (h.sound q hq)
  refine ⟨by simp [h.len], fun i hi => ?_, fun i hi => keep i (h.fin i hi), fun y hy => ?_, ?_, fun q' x' hq' hx' => ?_⟩
  · by_cases h1 : pn = i
    · subst h1; exact live
    · rw [List.getElem?_set_ne h1] at hi; exact h.sound i hi
  · rcases List.mem_append.1 hy with hy | hy
    · obtain ⟨i, h1, h2⟩ := h.tdok y hy
      exact ⟨i, h1, keep i h2⟩
    · rw [List.mem_singleton] at hy
      exact ⟨pn, hy, by rw [List.getElem?_set_self hlt]⟩
  · have h1 := nF_set hp
    have h2 := h.cnt
    simp only [List.length_append, List.length_singleton]; omega
  · by_cases h1 : pn = q'
    · subst h1
      exact .inl (List.mem_append_right _ (List.mem_singleton.2 rfl))
    · rw [List.getElem?_set_ne h1] at hq'
      rcases h.closed q' x' hq' hx' with h2 | h2 | ⟨j', h2, h3⟩
      · exact .inl (List.mem_append_left _ h2)
      · exact .inr (.inl fun p hp' => keep _ (h2 p hp'))
      · cases h2
        rw [hx] at hx'; cases hx'
        refine .inr (.inr ⟨j + 1, rfl, fun p hp' => ?_⟩)
        rw [take_succ_snoc hj, List.mem_append, List.mem_singleton] at hp'
        rcases hp' with hp' | rfl
        · exact keep _ (h3 p hp')
        · rw [Int.toNat_natCast, List.getElem?_set_self hlt]
theorem WI.done {q : Nat} {x : List Int} (h : WI rows final bk al td (some (q, x.length))) (hx : bk[q]? = some x) : WI rows final bk al td none := by
  refine ⟨h.len, h.sound, h.fin, h.tdok, h.cnt, fun q' x' hq' hx' => ?_⟩
  rcases h.closed q' x' hq' hx' with h1 | h1 | ⟨j', h1, h2⟩
  · exact .inl h1
  · exact .inr (.inl h1)
  · cases h1
    rw [hx] at hx'; cases hx'
    rw [List.take_length] at h2
    exact .inr (.inl h2)
theorem WI.finish (hbk : BkOk rows bk) (hr : ∀ row ∈ rows, ∀ t ∈ row, 0 ≤ t ∧ t < (rows.length : Int)) (h : WI rows final bk al [] none) (q : Nat) : al[q]? = some true ↔ LiveT rows final q := by
  refine ⟨h.sound q, fun hl => ?_⟩
  induction hl with
  | fin hf => exact h.fin _ hf
  | @step q t row h1 h2 _ ih =>
    have ht := hr row (List.mem_of_getElem? h1) _ h2
    obtain ⟨x, hx⟩ := get_some (l := bk) (k := t) (by rw [hbk.1]; omega)
    have hm : (q : Int) ∈ x := (hbk.2 t x hx (q : Int)).2 ⟨q, row, rfl, h1, h2⟩
    rcases h.closed t x ih hx with h3 | h3 | ⟨_, h3, _⟩
    · cases h3
    · simpa using h3 _ hm
    · cases h3
end

set_option maxHeartbeats 4000000 in
theorem wake_c (pb : Nat) (cv av : Value) (cell : List Nat) (an af : Option Addr) (capn capf : Nat) (rows : List (List Int)) (final : List Bool) (S : Nat → Prop) (H : Heap) (hS : ∀ k, S k → k < H.size ∧ k ≠ pb)
    (hb : Blk H pb 127 (autoL cv cell (.slice an rows.length capn) (.slice af final.length capf) av)) (hcl : cell.length ≤ 256) (hn : SlD tRows S H an capn rows) (hf : SlD tBool S H af capf final)
    (hr1 : rows.length ≤ 65536) (hfl : final.length = rows.length) (hrows : ∀ row ∈ rows, row.length ≤ 256 ∧ ∀ t ∈ row, 0 ≤ t ∧ t < (rows.length : Int)) :
    FnOk Tryd.prog 93 #[.pointer (some ⟨pb, 0, none⟩)] H fun v H' => Agr (fun k => k < H.size ∧ k ≠ pb) H H' ∧ H.size ≤ H'.size ∧
      ∃ (al : List Bool) (aa : Option Addr) (capa : Nat), al.length = rows.length ∧ (∀ q, q < rows.length → (al[q]? = some true ↔ LiveT rows final q)) ∧
        Blk H' pb 127 (autoL cv cell (.slice an rows.length capn) (.slice af final.length capf) (.slice aa al.length capa)) ∧ SlD tBool (fun k => H.size ≤ k ∧ k < H'.size) H' aa capa al := by
  have hpb := hb.lt
  refine FnOk.of_vc Tryd.func93 rfl (Tryd.call93 _) ?_
  (conv => whnf); refine fa fl127_2 ?_
  (conv => whnf); refine ld1 ct23 (by rw [hb.cell, Nat.zero_add]; exact autoL_257 hcl) trivial ?_
  (conv => whnf); refine vmake1 sl23 rfl (by omega) (by omega) (by omega) (by omega) ?_
  intro nb H1 hnb hs1 hb1n ha1
  rw [Int.toNat_natCast] at hb1n
  have hb1 := hb.agr ha1 (show pb < nb by omega)
  (conv => whnf); refine fa fl127_2 ?_
  (conv => whnf); refine ld1 ct23 (by rw [hb1.cell, Nat.zero_add]; exact autoL_257 hcl) trivial ?_
  (conv => whnf)
  refine VLoop.mk [24] (fun q : Nat => [.int .i64 q]) (fun q H2 => q ≤ rows.length ∧ Agr (fun k => k < H1.size ∧ k ≠ nb) H1 H2 ∧ H1.size ≤ H2.size ∧ ∃ vs bk, Tab tI (fun _ => False) H2 (nb + 1) 3 nb 33 vs bk ∧ bk.length = rows.length ∧
    (∀ (t : Nat) (x : List Int), bk[t]? = some x → x.length ≤ q * 256 ∧ ∀ p, p ∈ x ↔ Noted rows q 0 t p)) (fun q _ => rows.length - q) ?_ ?_
  · (conv => whnf)
    refine ⟨0, rfl, by omega, Agr.refl _ _, Nat.le_refl _, _, _, Tab.new hb1n (by omega), by simp, fun t x hx => ?_⟩
    rw [List.getElem?_replicate] at hx
    split at hx
    · cases hx
      refine ⟨by simp, fun p => ⟨(fun h => by cases h), ?_⟩⟩
      rintro ⟨q', row, _, _, ⟨h, _⟩ | ⟨_, h⟩⟩
      · omega
      · simp at h
    · cases hx
  · rintro q H2 junk ⟨hq, ha2, hs2, vs, bk, htab, hbkl, hbk⟩
    have hA2 : Agr (fun k => k < H.size ∧ k ≠ pb) H H2 := (ha1.mono fun k hk => by omega).trans (ha2.mono fun k hk => by omega)
    have hb2 := hb1.agr ha2 ⟨by omega, by omega⟩
    (conv => whnf); refine VIte.mk (fun h => ?_) (fun h => ?_) <;> simp only [decide_eq_true_eq, decide_eq_false_iff_not] at h
    · obtain ⟨row, hrow⟩ := get_some (l := rows) (k := q) (by omega)
      obtain ⟨hrl, hrt⟩ := hrows row (List.mem_of_getElem? hrow)
      (conv => whnf); refine ixr sl23 (hn.frame (hA2.mono fun k hk => hS k hk)) hrow rfl ?_
      rintro b2 o2 cs2 hSb2 hcells2 ⟨ra, rc, rfl, hr⟩
      (conv => whnf); refine ld1 ct33 hcells2.one trivial ?_
      (conv => whnf)
      refine VLoop.mk [31] (fun j : Nat => [.int .i64 j]) (fun j H3 => j ≤ row.length ∧ Agr (fun k => k < H1.size ∧ k ≠ nb) H2 H3 ∧ H1.size ≤ H3.size ∧ ∃ vs bk, Tab tI (fun _ => False) H3 (nb + 1) 3 nb 33 vs bk ∧ bk.length = rows.length ∧
        (∀ (t : Nat) (x : List Int), bk[t]? = some x → x.length ≤ q * 256 + j ∧ ∀ p, p ∈ x ↔ Noted rows q j t p)) (fun j _ => row.length - j) ?_ ?_
      · (conv => whnf); exact ⟨0, rfl, by omega, Agr.refl _ _, hs2, vs, bk, htab, hbkl, hbk⟩
      · clear htab hbkl hbk vs bk
        rintro j H3 junk2 ⟨hj, ha3, hs3, vs, bk, htab, hbkl, hbk⟩
        have hr3 := hr.frame (ha3.mono fun k hk => by have := hS k hk; omega)
        (conv => whnf); refine VIte.mk (fun h => ?_) (fun h => ?_) <;> simp only [decide_eq_true_eq, decide_eq_false_iff_not] at h
        · obtain ⟨ti, hti⟩ := get_some (l := row) (k := j) (by omega)
          obtain ⟨ht0, ht1⟩ := hrt ti (List.mem_of_getElem? hti)
          obtain ⟨t, rfl⟩ := Int.eq_ofNat_of_zero_le ht0
          (conv => whnf); refine ixr sl33 hr3 hti rfl ?_
          rintro b3 o3 cs3 hSb3 hcells3 ⟨rfl, htk⟩
          (conv => whnf); refine ld1 ct3 hcells3.one trivial ?_
          obtain ⟨v, x, hv, hx, hsl⟩ := htab.get (i := t) (by omega)
          obtain ⟨hxl, hxm⟩ := hbk t x hx
          obtain ⟨av3, capv3, rfl, -, -⟩ := hsl.view (S' := fun k => slB v k) (fun k hk => hk) (fun k hk => hk.elim)
          have htlt : t < vs.length := (List.getElem?_eq_some_iff.1 hv).1
          (conv => whnf); refine ix sl23 (by omega) (by omega) ?_
          (conv => whnf); refine ld1 ct33 (by rw [htab.blk.cell, show 0 + (t : Int).toNat * 1 = t by omega]; exact hv) trivial ?_
          (conv => whnf); refine vbuild1 sl33 [.int .i64 (q : Int)] rfl rfl (by decide) (by decide) ?_
          intro q4 H4 hq4 hs4 hb4 ha4
          have hnb3 := htab.blk.lt
          have htab4 := htab.agr ha4 (by omega) (fun b _ hb => by omega) (fun k hk => hk.elim)
          (conv => whnf); refine vappendO (T := tI) (S := fun _ => False) (ys := [(q : Int)]) (ds := [.int .i64 (q : Int)]) (lo := nb + 1) (xs := x) sl33 (htab4.own t _ x hv hx) (by omega) (fun k hk => hk.elim)
            (hb4.cells (fun j v hv => by simpa using hv)) (Ty.reps_one ⟨rfl, inI64 (by omega)⟩) rfl (by intro u hu; cases List.mem_singleton.1 hu; rfl) (by simp only [maxLen, List.length_singleton]; omega) (by simp only [List.length_singleton]; omega) ?_
          intro v5 H5 hown5 ha5 hs5 hfresh5
          have hb5n := htab4.blk.agr ha5 ⟨by omega, fun hk => by have := ((htab4.own t _ x hv hx).lt hk).1; omega⟩
          (conv => whnf); refine ix sl23 (by omega) (by omega) ?_
          (conv => whnf); refine st1 ct33 hb5n (by omega) hown5.one ?_
          intro H6 hb6 ha6 hs6
          rw [show 0 + (t : Int).toNat * 1 = t by omega] at hb6
          (conv => whnf); rw [w64 (x := (j : Int) + 1) (by omega) (by omega)]
          refine ⟨rfl, j + 1, by simp, ⟨by omega, ?_, by omega, _, _, htab4.push hv hown5 ha5 hfresh5 hb6 ha6 (fun k hk => hk.elim), by simp [hbkl], ?_⟩, by omega⟩
          · intro k hk
            rw [ha6 k hk.2, ha5 k ⟨by omega, fun hb => by have := ((htab4.own t _ x hv hx).lt hb).1; omega⟩, ha4 k (by omega), ha3 k hk]
          · intro t' x' hx'
            have hmem : ∀ p, Noted rows q (j + 1) t' p ↔ Noted rows q j t' p ∨ (t' = t ∧ p = (q : Int)) := by
              intro p
              unfold Noted
              constructor
              · rintro ⟨q', row', h1, h2, ⟨h3, h4⟩ | ⟨h3, h4⟩⟩
                · exact .inl ⟨q', row', h1, h2, .inl ⟨h3, h4⟩⟩
                · subst h3
                  rw [hrow] at h2; cases h2
                  rw [take_succ_snoc hti, List.mem_append, List.mem_singleton] at h4
                  rcases h4 with h4 | h4
                  · exact .inl ⟨_, _, h1, hrow, .inr ⟨rfl, h4⟩⟩
                  · exact .inr ⟨by omega, h1⟩
              · rintro (⟨q', row', h1, h2, ⟨h3, h4⟩ | ⟨h3, h4⟩⟩ | ⟨rfl, rfl⟩)
                · exact ⟨q', row', h1, h2, .inl ⟨h3, h4⟩⟩
                · subst h3
                  rw [hrow] at h2; cases h2
                  exact ⟨_, _, h1, hrow, .inr ⟨rfl, by rw [take_succ_snoc hti, List.mem_append]; exact .inl h4⟩⟩
                · exact ⟨q, row, rfl, hrow, .inr ⟨rfl, by rw [take_succ_snoc hti, List.mem_append]; exact .inr (List.mem_singleton.2 rfl)⟩⟩
            by_cases htt : t' = t
            · subst htt
              rw [List.getElem?_set_self (by omega)] at hx'
              cases hx'
              refine ⟨by simp only [List.length_append, List.length_singleton]; omega, fun p => ?_⟩
              rw [hmem p, List.mem_append, hxm p, List.mem_singleton]
              simp
            · rw [List.getElem?_set_ne (Ne.symm htt)] at hx'
              obtain ⟨h1, h2⟩ := hbk t' x' hx'
              refine ⟨by omega, fun p => ?_⟩
              rw [hmem p, h2 p]
              simp [htt]
        · have hj' : j = row.length := by omega
          subst hj'
          (conv => whnf); rw [w64 (x := (q : Int) + 1) (by omega) (by omega)]
          refine ⟨rfl, q + 1, by simp, ⟨by omega, ha2.trans ha3, by omega, vs, bk, htab, hbkl, fun t x hx => ?_⟩, by omega⟩
          obtain ⟨g1, g2⟩ := hbk t x hx
          refine ⟨by rw [Nat.succ_mul]; omega, fun p => ?_⟩
          rw [g2 p]
          unfold Noted
          constructor
          · rintro ⟨q', row', h1, h2, ⟨h3, h4⟩ | ⟨h3, h4⟩⟩
            · exact ⟨q', row', h1, h2, .inl ⟨by omega, h4⟩⟩
            · exact ⟨q', row', h1, h2, .inl ⟨by omega, List.mem_of_mem_take h4⟩⟩
          · rintro ⟨q', row', h1, h2, ⟨h3, h4⟩ | ⟨h3, h4⟩⟩
            · by_cases hqq : q' = q
              · rw [hqq, hrow] at h2; cases h2
                exact ⟨q', _, h1, by rw [hqq]; exact hrow, .inr ⟨hqq, by rw [List.take_length]; exact h4⟩⟩
              · exact ⟨q', row', h1, h2, .inl ⟨by omega, h4⟩⟩
            · simp at h4
    · have hq' : q = rows.length := by omega
      subst hq'
      have hbko : BkOk rows bk := ⟨hbkl, fun t x hx p => by
        rw [(hbk t x hx).2 p]
        unfold Noted
        constructor
        · rintro ⟨q', row, h1, h2, ⟨h3, h4⟩ | ⟨_, h4⟩⟩
          · exact ⟨q', row, h1, h2, h4⟩
          · simp at h4
        · rintro ⟨q', row, h1, h2, h4⟩
          exact ⟨q', row, h1, h2, .inl ⟨(List.getElem?_eq_some_iff.1 h2).1, h4⟩⟩⟩
      have hnb2 := htab.blk.lt
      have hback := htab.view (S' := fun k => nb ≤ k ∧ k < H2.size) hbkl.symm (by simp [maxLen]; omega) (fun k h1 h2 => ⟨h1, h2⟩) (fun k hk => hk.elim)
      clear hbk
      (conv => whnf); refine fa fl127_2 ?_
      (conv => whnf); refine ld1 ct23 (by rw [hb2.cell, Nat.zero_add]; exact autoL_257 hcl) trivial ?_
      (conv => whnf); refine vmake1 sl24 rfl (by omega) (by omega) (by omega) (by omega) ?_
      intro ab H3 hab hs3 hb3a ha3
      rw [Int.toNat_natCast] at hb3a
      have hb3 := hb2.agr ha3 (show pb < ab by omega)
      (conv => whnf); refine fa fl127_4 ?_
      (conv => whnf); refine st1 ct24 hb3 (by rw [autoL_len hcl]; omega) rfl ?_
      intro H4 hb4 ha4 hs4
      rw [Nat.zero_add, autoL_set259 hcl] at hb4
      replace hb3a := hb3a.agr ha4 (show ab ≠ pb by omega)
      have hA24 : Agr (fun k => k < H2.size ∧ k ≠ pb) H2 H4 := (ha3.mono fun k hk => by omega).trans (ha4.mono fun k hk => hk.2)
      (conv => whnf); refine fa fl127_3 ?_
      (conv => whnf); refine ld1 ct24 (by rw [hb4.cell, Nat.zero_add]; exact autoL_258 hcl) trivial ?_
      (conv => whnf)
      refine VLoop.mk [7, 61] (fun x : Nat × Value => [x.2, .int .i64 x.1]) (fun x H5 => x.1 ≤ rows.length ∧ Agr (fun k => k < H2.size ∧ k ≠ pb) H2 H5 ∧ H4.size ≤ H5.size ∧
        Blk H5 pb 127 (autoL cv cell (.slice an rows.length capn) (.slice af final.length capf) (.slice (some ⟨ab, 0, none⟩) (rows.length : Int).toNat (rows.length : Int).toNat)) ∧
        ∃ al td, al.length = rows.length ∧ Blk H5 ab 4 (al.map .bool) ∧ SlO tI (fun _ => False) H5 (ab + 1) 3 x.2 td ∧
          (∀ q, al[q]? = some true ↔ q < x.1 ∧ final[q]? = some true) ∧ (∀ q : Nat, al[q]? = some true → (q : Int) ∈ td) ∧ (∀ y ∈ td, ∃ q : Nat, y = (q : Int) ∧ al[q]? = some true) ∧ td.length + nF al = rows.length) (fun x _ => rows.length - x.1) ?_ ?_
      · (conv => whnf)
        refine ⟨(0, _), rfl, by omega, hA24, Nat.le_refl _, hb4, List.replicate rows.length false, [], by simp, by simpa using hb3a, SlO.nil, fun q => ⟨fun h => ?_, fun h => by omega⟩, fun q h => ?_, (fun y hy => by cases hy), by simp [nF, List.count_replicate]⟩
        · rw [List.getElem?_replicate] at h; split at h <;> simp at h
        · rw [List.getElem?_replicate] at h; split at h <;> simp at h
      · rintro ⟨i, v7⟩ H5 junk2 ⟨hi, hA5, hs5, hb5, al, td, hall, hb5a, htd, hal1, hal2, hal3, hal4⟩
        dsimp only at hi htd hal1
        (conv => whnf); refine VIte.mk (fun h => ?_) (fun h => ?_) <;> simp only [decide_eq_true_eq, decide_eq_false_iff_not] at h
        · have hA25 := hA2.trans (hA5.mono fun k hk => by omega)
          obtain ⟨f, hfi⟩ := get_some (l := final) (k := i) (by omega)
          (conv => whnf); refine VSeq.run ?_
          (conv => whnf); refine ixr sl24 (hf.frame (hA25.mono fun k hk => hS k hk)) hfi rfl ?_
          rintro b3 o3 cs3 hSb3 hcells3 rfl
          (conv => whnf); refine ld1 ct4 hcells3.one trivial ?_
          (conv => whnf); refine VIte.mk (fun h2 => ?_) (fun h2 => ?_)
          · subst h2
            have hfal : al[i]? = some false := by
              cases hx : al[i]? with
              | none => rw [List.getElem?_eq_none_iff] at hx; omega
              | some b =>
                cases b with
                | false => rfl
                | true => have := ((hal1 i).1 hx).1; omega
            (conv => whnf); refine fa fl127_4 ?_
            (conv => whnf); refine ld1 ct24 (by rw [hb5.cell, Nat.zero_add]; exact autoL_259 hcl) trivial ?_
            (conv => whnf); refine ix sl24 (by omega) (by omega) ?_
            (conv => whnf); refine st1 ct4 hb5a (by simp; omega) rfl ?_
            intro H6 hb6a ha6 hs6
            rw [show 0 + (i : Int).toNat * 1 = i by omega] at hb6a
            (conv => whnf); refine vbuild1 sl33 [.int .i64 (i : Int)] rfl rfl (by decide) (by decide) ?_
            intro q7 H7 hq7 hs7 hb7 ha7
            have hl5 := hb5.lt
            have hl5a := hb5a.lt
            have htd7 : SlO tI (fun _ => False) H7 (ab + 1) 3 v7 td := (htd.agr ha6 (fun b hb => by have := htd.lt hb; omega) (fun k hk => hk.elim)).agr ha7 (fun b hb => by have := htd.lt hb; omega) (fun k hk => hk.elim)
            have hnf := nF_set hfal
            (conv => whnf); refine vappendO (T := tI) (S := fun _ => False) (ys := [(i : Int)]) (ds := [.int .i64 (i : Int)]) (lo := ab + 1) (xs := td) sl33 htd7 (by omega) (fun k hk => hk.elim)
              (hb7.cells (fun j v hv => by simpa using hv)) (Ty.reps_one ⟨rfl, inI64 (by omega)⟩) rfl (by intro u hu; cases List.mem_singleton.1 hu; rfl) (by simp only [maxLen, List.length_singleton]; omega) (by simp only [List.length_singleton]; omega) ?_
            intro v8 H8 hown8 ha8 hs8 hfresh8
            (conv => whnf); rw [w64 (x := (i : Int) + 1) (by omega) (by omega)]
            have hsb : ∀ k, slB v7 k → ab + 1 ≤ k := fun k hk => (htd.lt hk).1
            refine ⟨rfl, (i + 1, v8), rfl, ⟨by dsimp only; omega, ?_, by omega, ?_, al.set i true, td ++ [(i : Int)], by simp [hall], ?_, hown8, fun q => ?_, fun q hq => ?_, fun y hy => ?_, ?_⟩, by dsimp only; omega⟩
            · intro k hk
              rw [ha8 k ⟨by omega, fun hb => by have := hsb k hb; omega⟩, ha7 k (by omega), ha6 k (by omega), hA5 k hk]
            · exact ((hb5.agr ha6 (by omega)).agr ha7 (by omega)).agr ha8 ⟨by omega, fun hb => by have := hsb _ hb; omega⟩
            · rw [List.map_set]
              exact (hb6a.agr ha7 (by omega)).agr ha8 ⟨by omega, fun hb => by have := hsb _ hb; omega⟩
            · dsimp only
              by_cases hqi : i = q
              · subst hqi
                rw [List.getElem?_set_self (by omega)]
                exact ⟨fun _ => ⟨by omega, hfi⟩, fun _ => rfl⟩
              · rw [List.getElem?_set_ne hqi, hal1 q]
                constructor
                · rintro ⟨h1, h2⟩; exact ⟨by omega, h2⟩
                · rintro ⟨h1, h2⟩; exact ⟨by omega, h2⟩
            · by_cases hqi : i = q
              · subst hqi; exact List.mem_append_right _ (List.mem_singleton.2 rfl)
              · rw [List.getElem?_set_ne hqi] at hq
                exact List.mem_append_left _ (hal2 q hq)
            · rcases List.mem_append.1 hy with hy | hy
              · obtain ⟨q, h1, h2⟩ := hal3 y hy
                refine ⟨q, h1, ?_⟩
                by_cases hqi : i = q
                · subst hqi; rw [List.getElem?_set_self (by omega)]
                · rw [List.getElem?_set_ne hqi]; exact h2
              · rw [List.mem_singleton] at hy
                exact ⟨i, hy, by rw [List.getElem?_set_self (by omega)]⟩
            · simp only [List.length_append, List.length_singleton]; omega
          · subst h2
            (conv => whnf); rw [w64 (x := (i : Int) + 1) (by omega) (by omega)]
            refine ⟨rfl, (i + 1, v7), rfl, ⟨by dsimp only; omega, hA5, hs5, hb5, al, td, hall, hb5a, htd, fun q => ?_, hal2, hal3, hal4⟩, by dsimp only; omega⟩
            rw [hal1 q]
            dsimp only
            constructor
            · rintro ⟨h1, h2⟩; exact ⟨by omega, h2⟩
            · rintro ⟨h1, h2⟩
              refine ⟨?_, h2⟩
              by_cases hqi : q = i
              · subst hqi; rw [hfi] at h2; cases h2
              · omega
        · have hi' : i = rows.length := by omega
          subst hi'
          have hwi : WI rows final bk al td none := by
            refine ⟨hall, fun q hq => .fin ((hal1 q).1 hq).2, fun q hq => (hal1 q).2 ⟨?_, hq⟩, hal3, by omega, fun q x hq hx => .inl (hal2 q hq)⟩
            rw [← hfl]; exact (List.getElem?_eq_some_iff.1 hq).1
          clear hal1 hal2 hal3 hal4
          (conv => whnf)
          refine VLoop.mk [7] (fun x : Value × List Bool × List Int => [x.1]) (fun x H6 => Agr (fun k => k < H2.size ∧ k ≠ pb) H2 H6 ∧ H5.size ≤ H6.size ∧
            Blk H6 pb 127 (autoL cv cell (.slice an rows.length capn) (.slice af final.length capf) (.slice (some ⟨ab, 0, none⟩) (rows.length : Int).toNat (rows.length : Int).toNat)) ∧
            Blk H6 ab 4 (x.2.1.map .bool) ∧ SlO tI (fun _ => False) H6 (ab + 1) 3 x.1 x.2.2 ∧ WI rows final bk x.2.1 x.2.2 none) (fun x _ => 2 * nF x.2.1 + x.2.2.length) ?_ ?_
          · (conv => whnf)
            exact ⟨(v7, al, td), rfl, hA5, Nat.le_refl _, hb5, hb5a, htd, hwi⟩
          · clear htd hwi hb5a hb5 hA5 hall
            rintro ⟨v7, al, td⟩ H6 junk3 ⟨hA6, hs6, hb6, hb6a, htd, hwi⟩
            dsimp only at htd hb6a hwi
            obtain ⟨at7, cap7, rfl, hv7, hsb7⟩ := htd.view (S' := fun k => ab + 1 ≤ k ∧ k < H6.size) (fun k hk => htd.lt hk) (fun k hk => hk.elim)
            (conv => whnf); refine VIte.mk (fun h => ?_) (fun h => ?_) <;> simp only [decide_eq_true_eq, decide_eq_false_iff_not] at h
            · obtain ⟨td0, y, rfl⟩ : ∃ td0 y, td = td0 ++ [y] := ⟨td.dropLast, td.getLast (by intro h2; subst h2; simp at h), (List.dropLast_concat_getLast _).symm⟩
              obtain ⟨q, rfl, hqt⟩ := hwi.tdok y (by simp)
              have hql : q < rows.length := by have := (List.getElem?_eq_some_iff.1 hqt).1; have := hwi.len; omega
              have htl : (td0 ++ [(q : Int)]).length = td0.length + 1 := by simp
              have hcnt := hwi.cnt
              (conv => whnf); refine ixr (i := td0.length) (x := (q : Int)) sl33 hv7 (by simp) (by rw [w64 (by omega) (by omega)]; omega) ?_
              rintro b3 o3 cs3 hSb3 hcells3 ⟨rfl, -⟩
              (conv => whnf); refine ld1 ct3 hcells3.one trivial ?_
              (conv => whnf); rw [w64 (x := ((td0 ++ [(q : Int)]).length : Int) - 1) (by omega) (by omega)]
              refine vcutH sl33 (by omega) (by have := hv7.le; omega) ?_
              rw [show (((td0 ++ [(q : Int)]).length : Int) - 1).toNat = td0.length by omega]
              have htd0 := htd.pop
              clear htd hv7
              obtain ⟨xb, hxb⟩ := get_some (l := bk) (k := q) (by omega)
              have hback6 := hback.frame (hA6.mono fun k hk => by omega)
              (conv => whnf); refine ixrn sl23 hback6 (by omega) hxb rfl ?_
              rintro b4 o4 cs4 hSb4 hcells4 ⟨xa, xc, rfl, hxa⟩
              (conv => whnf); refine ld1 ct33 hcells4.one trivial ?_
              (conv => whnf)
              refine VLoop.mk [7, 97] (fun x : Nat × Value × List Bool × List Int => [x.2.1, .int .i64 x.1]) (fun x H7 => x.1 ≤ xb.length ∧ Agr (fun k => k < H2.size ∧ k ≠ pb) H6 H7 ∧ H6.size ≤ H7.size ∧
                Blk H7 pb 127 (autoL cv cell (.slice an rows.length capn) (.slice af final.length capf) (.slice (some ⟨ab, 0, none⟩) (rows.length : Int).toNat (rows.length : Int).toNat)) ∧
                Blk H7 ab 4 (x.2.2.1.map .bool) ∧ SlO tI (fun _ => False) H7 (ab + 1) 3 x.2.1 x.2.2.2 ∧ WI rows final bk x.2.2.1 x.2.2.2 (some (q, x.1)) ∧ x.2.2.1[q]? = some true ∧ 2 * nF x.2.2.1 + x.2.2.2.length ≤ 2 * nF al + td0.length)
                (fun x _ => xb.length - x.1) ?_ ?_
              · (conv => whnf)
                exact ⟨(0, _, al, td0), rfl, by dsimp only; omega, Agr.refl _ _, Nat.le_refl _, hb6, hb6a, htd0, hwi.pop, hqt, Nat.le_refl _⟩
              · clear hb6 hb6a htd0
                rintro ⟨j, v7, al2, td⟩ H7 junk4 ⟨hj, hA7, hs7, hb7, hb7a, htd, hwi2, hqt2, hmeas⟩
                dsimp only at hj htd hb7a hwi2 hqt2 hmeas
                (conv => whnf); refine VIte.mk (fun h2 => ?_) (fun h2 => ?_) <;> simp only [decide_eq_true_eq, decide_eq_false_iff_not] at h2
                · obtain ⟨p, hpj⟩ := get_some (l := xb) (k := j) (by omega)
                  obtain ⟨pn, prow, rfl, hprow, -⟩ := (hbko.2 q xb hxb p).1 (List.mem_of_getElem? hpj)
                  have hpl : pn < rows.length := (List.getElem?_eq_some_iff.1 hprow).1
                  have hall := hwi2.len
                  have hcnt2 := hwi2.cnt
                  obtain ⟨f, hpf⟩ := get_some (l := al2) (k := pn) (by omega)
                  have hl7 := hb7.lt
                  have hl7a := hb7a.lt
                  (conv => whnf); refine VSeq.run ?_
                  (conv => whnf); refine ixr sl33 (hxa.frame (hA7.mono fun k hk => by omega)) hpj rfl ?_
                  rintro b5 o5 cs5 hSb5 hcells5 ⟨rfl, -⟩
                  (conv => whnf); refine ld1 ct3 hcells5.one trivial ?_
                  (conv => whnf); refine fa fl127_4 ?_
                  (conv => whnf); refine ld1 ct24 (by rw [hb7.cell, Nat.zero_add]; exact autoL_259 hcl) trivial ?_
                  (conv => whnf); refine ix sl24 (by omega) (by omega) ?_
                  (conv => whnf); refine ld1 (v := .bool f) ct4 (by rw [hb7a.cell, show 0 + (pn : Int).toNat * 1 = pn by omega, List.getElem?_map, hpf]; rfl) trivial ?_
                  (conv => whnf); refine VIte.mk (fun h3 => ?_) (fun h3 => ?_)
                  · obtain rfl : f = false := by simpa using h3
                    have hnf := nF_set hpf
                    (conv => whnf); refine fa fl127_4 ?_
                    (conv => whnf); refine ld1 ct24 (by rw [hb7.cell, Nat.zero_add]; exact autoL_259 hcl) trivial ?_
                    (conv => whnf); refine ix sl24 (by omega) (by omega) ?_
                    (conv => whnf); refine st1 ct4 hb7a (by simp; omega) rfl ?_
                    intro H8 hb8a ha8 hs8
                    rw [show 0 + (pn : Int).toNat * 1 = pn by omega] at hb8a
                    (conv => whnf); refine vbuild1 sl33 [.int .i64 (pn : Int)] rfl rfl (by decide) (by decide) ?_
                    intro q9 H9 hq9 hs9 hb9 ha9
                    have htd9 : SlO tI (fun _ => False) H9 (ab + 1) 3 v7 td := (htd.agr ha8 (fun b hb => by have := htd.lt hb; omega) (fun k hk => hk.elim)).agr ha9 (fun b hb => by have := htd.lt hb; omega) (fun k hk => hk.elim)
                    (conv => whnf); refine vappendO (T := tI) (S := fun _ => False) (ys := [(pn : Int)]) (ds := [.int .i64 (pn : Int)]) (lo := ab + 1) (xs := td) sl33 htd9 (by omega) (fun k hk => hk.elim)
                      (hb9.cells (fun j v hv => by simpa using hv)) (Ty.reps_one ⟨rfl, inI64 (by omega)⟩) rfl (by intro u hu; cases List.mem_singleton.1 hu; rfl) (by simp only [maxLen, List.length_singleton]; omega) (by simp only [List.length_singleton]; omega) ?_
                    intro v10 H10 hown10 ha10 hs10 hfresh10
                    (conv => whnf); rw [w64 (x := (j : Int) + 1) (by have := hxa.le; simp only [maxLen] at this; omega) (by have := hxa.le; simp only [maxLen] at this; omega)]
                    have hsb : ∀ k, slB v7 k → ab + 1 ≤ k := fun k hk => (htd.lt hk).1
                    refine ⟨rfl, (j + 1, v10, al2.set pn true, td ++ [(pn : Int)]), rfl, ⟨by dsimp only; omega, ?_, by omega, ?_, ?_, hown10, hwi2.mark hbko hqt2 hxb hpj hpf, ?_, ?_⟩, by dsimp only; omega⟩
                    · intro k hk
                      rw [ha10 k ⟨by omega, fun hb => by have := hsb k hb; omega⟩, ha9 k (by omega), ha8 k (by omega), hA7 k hk]
                    · exact ((hb7.agr ha8 (by omega)).agr ha9 (by omega)).agr ha10 ⟨by omega, fun hb => by have := hsb _ hb; omega⟩
                    · dsimp only
                      rw [List.map_set]
                      exact (hb8a.agr ha9 (by omega)).agr ha10 ⟨by omega, fun hb => by have := hsb _ hb; omega⟩
                    · dsimp only
                      by_cases hpq : pn = q
                      · subst hpq; rw [List.getElem?_set_self (by omega)]
                      · rw [List.getElem?_set_ne hpq]; exact hqt2
                    · simp only [List.length_append, List.length_singleton]; omega
                  · obtain rfl : f = true := by simpa using h3
                    (conv => whnf); rw [w64 (x := (j : Int) + 1) (by have := hxa.le; simp only [maxLen] at this; omega) (by have := hxa.le; simp only [maxLen] at this; omega)]
                    exact ⟨rfl, (j + 1, v7, al2, td), rfl, ⟨by dsimp only; omega, hA7, hs7, hb7, hb7a, htd, hwi2.skip hxb hpj hpf, hqt2, hmeas⟩, by dsimp only; omega⟩
                · have hj' : j = xb.length := by omega
                  subst hj'
                  (conv => whnf)
                  exact ⟨rfl, (v7, al2, td), rfl, ⟨hA6.trans hA7, by omega, hb7, hb7a, htd, hwi2.done hxb⟩, by dsimp only; omega⟩
            · have htd0 : td = [] := List.eq_nil_of_length_eq_zero (by omega)
              subst htd0
              (conv => whnf)
              have hall := hwi.len
              have hl6 := hb6.lt
              refine ⟨hA2.trans (hA6.mono fun k hk => by omega), by omega, al, some ⟨ab, 0, none⟩, rows.length, hall, fun q _ => hwi.finish hbko (fun row hrow => (hrows row hrow).2) q, ?_, ?_⟩
              · rw [hall]; exact hb6
              · have hl6a := hb6a.lt
                refine SlD.intro (show H.size ≤ ab ∧ ab < H6.size by omega) (by omega) (by simp only [maxLen]; omega) (hb6a.cells (cs := al.map .bool) (fun j v hv => by rw [Nat.zero_add]; exact hv)) (reps_of_ones (by simp) fun i v x hv hx => ?_)
                rw [List.getElem?_map, hx] at hv
                cases hv; rfl

end Go.Proofs.YthomdogheamfpaaDoor
/- dfa.New. -/
set_option linter.unusedVariables false
set_option linter.unusedSimpArgs false
set_option maxRecDepth 100000
namespace Go.Proofs.YthomdogheamfpaaDoor
open Go.VC
attribute [local irreducible] mRun

structure AM where
  sets : List (BitVec 256)
  cell : List Nat
  next : List (List Int)
  final : List Bool
def madeM (cells : List (BitVec 256)) (next : List (List Int)) (final : List Bool) : AM :=
  ⟨(mRun next cells (fun b => spanS b b) 256).sets, (mRun next cells (fun b => spanS b b) 256).cell, next.map (rowOf (mRun next cells (fun b => spanS b b) 256).cols), final⟩
structure AM.Ok (A : AM) : Prop where
  n1 : 1 ≤ A.next.length
  n2 : A.next.length ≤ 65536
  fl : A.final.length = A.next.length
  cell : A.cell.length = 256
  places : ∀ p ∈ A.cell, p < A.sets.length
  sl : A.sets.length ≤ 256
  rows : ∀ row ∈ A.next, row.length = A.sets.length ∧ ∀ t ∈ row, 0 ≤ t ∧ t < (A.next.length : Int)
structure AutoR (S : Nat → Prop) (H : Heap) (pb : Nat) (A : AM) : Prop where
  own : S pb
  ok : A.Ok
  rep : ∃ ac cc an cn af cf aa ca al, Blk H pb 127 (autoL (.slice ac A.sets.length cc) A.cell (.slice an A.next.length cn) (.slice af A.final.length cf) (.slice aa al.length ca)) ∧
    SlD tSet S H ac cc A.sets ∧ SlD tRows S H an cn A.next ∧ SlD tBool S H af cf A.final ∧ SlD tBool S H aa ca al ∧ al.length = A.next.length ∧ ∀ q : Nat, q < A.next.length → (al[q]? = some true ↔ LiveT A.next A.final q)
theorem AutoR.frame {S : Nat → Prop} {H H' : Heap} {pb : Nat} {A : AM} (h : AutoR S H pb A) (k : Agr S H H') : AutoR S H' pb A := by
  obtain ⟨h1, h2, ac, cc, an, cn, af, cf, aa, ca, al, h3, h4, h5, h6, h7, h8⟩ := h
  exact ⟨h1, h2, ac, cc, an, cn, af, cf, aa, ca, al, h3.agr k h1, h4.frame k, h5.frame k, h6.frame k, h7.frame k, h8⟩
theorem AutoR.mono {S S' : Nat → Prop} {H : Heap} {pb : Nat} {A : AM} (h : AutoR S H pb A) (k : ∀ b, S b → S' b) : AutoR S' H pb A := by
  obtain ⟨h1, h2, ac, cc, an, cn, af, cf, aa, ca, al, h3, h4, h5, h6, h7, h8⟩ := h
  exact ⟨k _ h1, h2, ac, cc, an, cn, af, cf, aa, ca, al, h3, h4.mono k, h5.mono k, h6.mono k, h7.mono k, h8⟩
def AutoV (S : Nat → Prop) (H : Heap) (v : Value) : Option AM → Prop
  | none => v = .pointer none
  | some A => ∃ pb, v = .pointer (some ⟨pb, 0, none⟩) ∧ AutoR S H pb A
theorem AutoV.frame {S : Nat → Prop} {H H' : Heap} {v : Value} {o : Option AM} (h : AutoV S H v o) (k : Agr S H H') : AutoV S H' v o := by
  cases o with
  | none => exact h
  | some A => obtain ⟨pb, h1, h2⟩ := h; exact ⟨pb, h1, h2.frame k⟩
theorem AutoV.mono {S S' : Nat → Prop} {H : Heap} {v : Value} {o : Option AM} (h : AutoV S H v o) (k : ∀ b, S b → S' b) : AutoV S' H v o := by
  cases o with
  | none => exact h
  | some A => obtain ⟨pb, h1, h2⟩ := h; exact ⟨pb, h1, h2.mono k⟩
theorem madeM_ok {cells : List (BitVec 256)} {next : List (List Int)} {final : List Bool} (h : soundB cells next final.length = true) : (madeM cells next final).Ok := by
  obtain ⟨n1, n2, n3, hrows⟩ := soundB_rows h
  have hm := mRun_ok (next := next) (sp := fun b => spanS b b) (fun b hb => (soundB_cells h hb).1) 256 (Nat.le_refl _)
  have hlen := hm.len
  have hle := hm.le
  have hce := hm.cell
  refine ⟨by simpa [madeM] using n1, by simpa [madeM] using n2, by simp [madeM, n3], ?_, ?_, ?_, ?_⟩
  · exact hce
  · intro p hp
    have := hm.places p hp
    simp only [madeM]; omega
  · simp only [madeM]; omega
  · intro row hrow
    simp only [madeM, List.mem_map] at hrow
    obtain ⟨r, hr, rfl⟩ := hrow
    refine ⟨by simp only [rowOf, madeM, List.length_map]; omega, fun t ht => ?_⟩
    obtain ⟨c, hc, rfl⟩ := List.mem_map.1 ht
    have hc' := hm.cols c hc
    have := hrows r hr
    simp only [madeM, List.length_map]
    rw [List.getD_eq_getElem?_getD, List.getElem?_eq_getElem (by omega), Option.getD_some]
    exact this.2 _ (List.getElem_mem _)

set_option maxHeartbeats 4000000 in
theorem new_c (ca na fa : Option Addr) (cc nc fc : Nat) (cells : List (BitVec 256)) (next : List (List Int)) (final : List Bool) (S : Nat → Prop) (H : Heap) (hS : ∀ k, S k → k < H.size)
    (hc : SlD tSet S H ca cc cells) (hn : SlD tRows S H na nc next) (hf : SlD tBool S H fa fc final) :
    FnOk Tryd.prog 44 #[.slice ca cells.length cc, .slice na next.length nc, .slice fa final.length fc] H fun v H' =>
      Agr (Old H) H H' ∧ H.size ≤ H'.size ∧ AutoV (fun k => H.size ≤ k ∧ k < H'.size) H' v (if soundB cells next final.length then some (madeM cells next final) else none) := by
  have lf := hf.le
  unfold maxLen at lf
  refine FnOk.of_vc Tryd.func44 rfl (Tryd.call44 _) ?_
  (conv => whnf); refine pures (sound_p ca na fa cc nc fc final.length cells next S H hS hc hn (by omega)) fun H1 ha1 => ?_
  have hs1 : H.size ≤ H1.size := by
    rcases Nat.eq_zero_or_pos H.size with h | h
    · omega
    · have := old_lt ha1 (k := H.size - 1) (by unfold Old; omega); omega
  (conv => whnf); refine VIte.mk (fun h => ?_) (fun h => ?_)
  · (conv => whnf)
    have hb : soundB cells next final.length = false := by simpa using h
    rw [hb]
    exact ⟨ha1, hs1, rfl⟩
  · have hb : soundB cells next final.length = true := by simpa using h
    rw [hb]
    obtain ⟨n1, n2, n3, hrows⟩ := soundB_rows hb
    (conv => whnf); refine vappendD (T := tBool) (S := S) (lo := H1.size) (xs := []) sl24 tBool_ones SlO.nil (Nat.le_refl _) (fun k hk => ⟨by have := hS k hk; omega, ?_⟩) (hf.frame (ha1.mono hS)) (by simp only [maxLen, List.length_nil]; omega) (by simp only [List.length_nil]; omega) ?_
    · rintro ⟨o, n, c, h⟩; cases h
    intro v2 H2 hown2 ha2 hs2 _
    rw [List.nil_append] at hown2
    have hown2' : SlO tBool (fun _ => False) H2 H1.size 4 v2 final := hown2.free tBool_free
    obtain ⟨af, capf, rfl, hfin, -⟩ := hown2'.view (S' := fun k => H1.size ≤ k ∧ k < H2.size) (fun k hk => hown2.lt hk) (fun k hk => hk.elim)
    (conv => whnf); refine vbuildS rfl rfl _ rfl (autoL (.slice none 0 0) [] (.slice none 0 0) (.slice af final.length capf) (.slice none 0 0)) (by rfl) ?_
    (conv => whnf); refine vbox (autoL (.slice none 0 0) [] (.slice none 0 0) (.slice af final.length capf) (.slice none 0 0)) rfl ?_
    intro pb H3 hpb hs3 hb3 ha3
    have hsz2 : H2.size = pb := by omega
    have hsO : ∀ k, Old H k → k < H1.size := fun k hk => by unfold Old at hk; omega
    have hA3 : Agr (fun k => k < H.size) H H3 := (ha1.trans (ha2.mono fun k hk => ⟨hsO k hk, fun hb => by obtain ⟨o, n, c, h⟩ := hb; cases h⟩)).trans (ha3.mono fun k hk => by unfold Old at hk; omega)
    have hSO : ∀ k, S k → k < H3.size ∧ k ≠ pb := fun k hk => by have := hS k hk; omega
    (conv => whnf); refine VCall.mk (merge_c pb (.slice af final.length capf) (.slice none 0 0) ca na cc nc cells next final.length S H3 hSO hb3 (hc.frame (hA3.mono hS)) (hn.frame (hA3.mono hS)) hb) ?_
    rintro v4 H4 ⟨ha4, hs4, ac, capc, an, capn, hb4, hsets, hrows4⟩
    have hfin3 : SlD tBool (fun k => H1.size ≤ k ∧ k < H2.size) H4 af capf final := (hfin.frame (ha3.mono fun k hk => by omega)).frame (ha4.mono fun k hk => by omega)
    have hmok := madeM_ok hb
    (conv => whnf)
    refine VCall.mk (wake_c pb (.slice ac (mRun next cells (fun b => spanS b b) 256).sets.length capc) (.slice none 0 0) (mRun next cells (fun b => spanS b b) 256).cell an af capn capf (next.map (rowOf (mRun next cells (fun b => spanS b b) 256).cols)) final
      (fun k => H1.size ≤ k ∧ k < H4.size ∧ k ≠ pb) H4 (fun k hk => by omega) (by rw [List.length_map]; exact hb4) (Nat.le_of_eq hmok.cell) (hrows4.mono fun k hk => by omega) (hfin3.mono fun k hk => by omega)
      (by simpa using n2) (by simp [n3]) (fun row hrow => ?_)) ?_
    · have := hmok.rows row hrow
      have h2 := hmok.sl
      exact ⟨by omega, this.2⟩
    rintro v5 H5 ⟨ha5, hs5, al, aa, capa, hall, hlive, hb5, hal⟩
    (conv => whnf)
    refine ⟨?_, by omega, pb, rfl, ⟨by omega, by omega⟩, hmok, ac, capc, an, capn, af, capf, aa, capa, al, hb5, ?_, ?_, ?_, ?_, hall, hlive⟩
    · exact (hA3.trans (ha4.mono fun k hk => by omega)).trans (ha5.mono fun k hk => by omega)
    · exact (hsets.frame (ha5.mono fun k hk => by omega)).mono fun k hk => by omega
    · exact (hrows4.frame (ha5.mono fun k hk => by omega)).mono fun k hk => by omega
    · exact (hfin3.frame (ha5.mono fun k hk => by omega)).mono fun k hk => by omega
    · exact hal.mono fun k hk => by omega

end Go.Proofs.YthomdogheamfpaaDoor
/- The automaton's methods. -/
set_option linter.unusedVariables false
set_option linter.unusedSimpArgs false
set_option maxRecDepth 100000
namespace Go.Proofs.YthomdogheamfpaaDoor
open Go.VC
attribute [local irreducible] mRun

def stN : Option AM → Nat
  | none => 1
  | some A => A.next.length
theorem ptrA : Tryd.prog.underlying 29 = some (.pointer 127) := rfl
theorem states_p {S : Nat → Prop} {H : Heap} {v : Value} {o : Option AM} (h : AutoV S H v o) : Pure Tryd.prog 27 #[v] H (.int .i64 (stN o : Int)) := by
  cases o with
  | none =>
    obtain rfl := h
    refine FnOk.of_vc Tryd.func27 rfl (Tryd.call27 _) ?_
    (conv => whnf); refine peqN ptrA ?_
    (conv => whnf); exact ⟨rfl, Agr.refl _ _⟩
  | some A =>
    obtain ⟨pb, rfl, hown, hok, ac, cc, an, cn, af, cf, aa, ca, al, hb, hsets, hnext, hfin, hal, hall, hlive⟩ := h
    have hcl : A.cell.length ≤ 256 := Nat.le_of_eq hok.cell
    refine FnOk.of_vc Tryd.func27 rfl (Tryd.call27 _) ?_
    (conv => whnf); refine peqS ptrA ?_
    (conv => whnf); refine fa fl127_2 ?_
    (conv => whnf); refine ld1 ct23 (by rw [hb.cell, Nat.zero_add]; exact autoL_257 hcl) trivial ?_
    (conv => whnf); exact ⟨rfl, Agr.refl _ _⟩
def finM : Option AM → Int → Bool
  | none, _ => false
  | some A, q => decide (0 ≤ q) && (A.final[q.toNat]?).getD false
theorem final_p {S : Nat → Prop} {H : Heap} {v : Value} {o : Option AM} {q : Int} (h : AutoV S H v o) : Pure Tryd.prog 36 #[v, .int .i64 q] H (.bool (finM o q)) := by
  cases o with
  | none =>
    obtain rfl := h
    refine FnOk.of_vc Tryd.func36 rfl (Tryd.call36 _) ?_
    (conv => whnf); refine pneqN ptrA ?_
    (conv => whnf); exact ⟨rfl, Agr.refl _ _⟩
  | some A =>
    obtain ⟨pb, rfl, hown, hok, ac, cc, an, cn, af, cf, aa, ca, al, hb, hsets, hnext, hfin, hal, hall, hlive⟩ := h
    have hcl : A.cell.length ≤ 256 := Nat.le_of_eq hok.cell
    have hfl := hok.fl
    have hn2 := hok.n2
    refine FnOk.of_vc Tryd.func36 rfl (Tryd.call36 _) ?_
    cases q with
    | negSucc n =>
      (conv => whnf); refine pneqS ptrA ?_
      (conv => whnf); exact ⟨rfl, Agr.refl _ _⟩
    | ofNat n =>
      (conv => whnf); refine pneqS ptrA ?_
      (conv => whnf); refine fa fl127_3 ?_
      (conv => whnf); refine ld1 ct24 (by rw [hb.cell, Nat.zero_add]; exact autoL_258 hcl) trivial ?_
      by_cases hnl : n < A.final.length
      · obtain ⟨f, hf⟩ := get_some hnl
        have hd : decide (Int.ofNat n < (A.final.length : Int)) = true := decide_eq_true (by simpa using hnl)
        (conv => whnf); rw [hd]
        (conv => whnf); refine fa fl127_3 ?_
        (conv => whnf); refine ld1 ct24 (by rw [hb.cell, Nat.zero_add]; exact autoL_258 hcl) trivial ?_
        (conv => whnf); refine ixr sl24 hfin hf rfl ?_
        rintro b3 o3 cs3 hSb3 hcells3 rfl
        (conv => whnf); refine ld1 ct4 hcells3.one trivial ?_
        (conv => whnf); exact ⟨by simp [finM, hf], Agr.refl _ _⟩
      · have hd : decide (Int.ofNat n < (A.final.length : Int)) = false := decide_eq_false (by simpa using hnl)
        (conv => whnf); rw [hd]
        (conv => whnf); exact ⟨by simp [finM, List.getElem?_eq_none (Nat.le_of_not_lt hnl)], Agr.refl _ _⟩

theorem autoL_at {cv nv fv av : Value} {cell : List Nat} {b c : Nat} (h : cell[b]? = some c) : (autoL cv cell nv fv av)[1 + b]? = some (.int .u8 (c : Int)) := by
  have hlt := (List.getElem?_eq_some_iff.1 h).1
  unfold autoL
  rw [List.cons_append, Nat.add_comm, List.getElem?_cons_succ, List.append_assoc, List.getElem?_append_left (by simpa using hlt), List.getElem?_map, h]
  rfl
def stepM (o : Option AM) (q : Int) (b : Nat) : Int :=
  if q < 0 ∨ (stN o : Int) ≤ q then -1 else match o with
    | none => 0
    | some A => ((A.next[q.toNat]?).getD []).getD (A.cell.getD b 0) 0
theorem stN_le {S : Nat → Prop} {H : Heap} {v : Value} {o : Option AM} (h : AutoV S H v o) : 1 ≤ stN o ∧ stN o ≤ 65536 := by
  cases o with
  | none => simp [stN]
  | some A => obtain ⟨pb, rfl, hown, hok, _⟩ := h; exact ⟨hok.n1, hok.n2⟩
theorem step_p {S : Nat → Prop} {H : Heap} {v : Value} {o : Option AM} {q : Int} {b : Nat} (hS : ∀ k, S k → k < H.size) (h : AutoV S H v o) (hb8 : b < 256) :
    Pure Tryd.prog 28 #[v, .int .i64 q, .int .u8 (b : Int)] H (.int .i64 (stepM o q b)) := by
  refine FnOk.of_vc Tryd.func28 rfl (Tryd.call28 _) ?_
  cases q with
  | negSucc n =>
    have hd : decide (Int.negSucc n < 0) = true := decide_eq_true (Int.negSucc_lt_zero n)
    (conv => whnf); rw [hd]
    (conv => whnf); exact ⟨by simp [stepM, Int.negSucc_lt_zero], Agr.refl _ _⟩
  | ofNat n =>
    (conv => whnf); refine pures (states_p h) fun H1 ha1 => ?_
    have h1 := h.frame (ha1.mono hS)
    by_cases hn : stN o ≤ n
    · have hd : decide ((stN o : Int) ≤ Int.ofNat n) = true := decide_eq_true (by simpa using hn)
      (conv => whnf); rw [hd]
      (conv => whnf); exact ⟨by simp [stepM, hn], ha1⟩
    · have hd : decide ((stN o : Int) ≤ Int.ofNat n) = false := decide_eq_false (by simpa using hn)
      (conv => whnf); rw [hd]
      have hst : ∀ x, x = (match o with | none => (0 : Int) | some A => ((A.next[n]?).getD []).getD (A.cell.getD b 0) 0) → stepM o (Int.ofNat n) b = x := by
        intro x hx
        subst hx
        unfold stepM
        rw [if_neg (by simp; omega)]
        cases o <;> rfl
      cases o with
      | none =>
        obtain rfl := h1
        (conv => whnf); refine peqN ptrA ?_
        (conv => whnf); exact ⟨by rw [hst 0 rfl], ha1⟩
      | some A =>
        obtain ⟨pb, rfl, hown, hok, ac, cc, an, cn, af, cf, aa, ca, al, hb, hsets, hnext, hfin, hal, hall, hlive⟩ := h1
        have hcl : A.cell.length ≤ 256 := Nat.le_of_eq hok.cell
        simp only [stN] at hn
        obtain ⟨row, hrow⟩ := get_some (l := A.next) (k := n) (by omega)
        obtain ⟨c, hc⟩ := get_some (l := A.cell) (k := b) (by rw [hok.cell]; exact hb8)
        have hrl := (hok.rows row (List.mem_of_getElem? hrow)).1
        have hcp := hok.places c (List.mem_of_getElem? hc)
        obtain ⟨t, ht⟩ := get_some (l := row) (k := c) (by omega)
        (conv => whnf); refine peqS ptrA ?_
        (conv => whnf); refine VDraw.lex rfl (by kernel_rfl) ?_
        (conv => whnf); refine fa fl127_2 ?_
        (conv => whnf); refine ld1 ct23 (by rw [hb.cell, Nat.zero_add]; exact autoL_257 hcl) trivial ?_
        (conv => whnf); refine ixr sl23 hnext hrow rfl ?_
        rintro b2 o2 cs2 hSb2 hcells2 ⟨ra, rc, rfl, hr⟩
        (conv => whnf); refine ld1 ct33 hcells2.one trivial ?_
        (conv => whnf); refine fa fl127_1 ?_
        (conv => whnf); refine ixa ar125 (by omega) (by omega) ?_
        (conv => whnf); refine ld1 (v := .int .u8 (c : Int)) ct5 (by rw [hb.cell, show 0 + 1 + (b : Int).toNat * 1 = 1 + b by omega]; exact autoL_at hc) trivial ?_
        (conv => whnf); refine ixr sl33 hr ht rfl ?_
        rintro b3 o3 cs3 hSb3 hcells3 ⟨rfl, -⟩
        (conv => whnf); refine ld1 ct3 hcells3.one trivial ?_
        (conv => whnf); exact ⟨by rw [hst t (by simp [hrow, hc, ht, List.getD_eq_getElem?_getD])], ha1⟩

def runM (o : Option AM) (s : ByteArray) (k : Nat) : Int := (s.data.toList.take k).foldl (fun q b => stepM o q b.toNat) 0
theorem runM_succ {o : Option AM} {s : ByteArray} {k : Nat} {b : UInt8} (h : s.data[k]? = some b) : runM o s (k + 1) = stepM o (runM o s k) b.toNat := by
  unfold runM
  rw [take_succ_snoc (x := b) (by rw [Array.getElem?_toList]; exact h), List.foldl_append]; rfl
theorem strT : Tryd.prog.underlying 9 = some .string := rfl
theorem get_byte {s : ByteArray} {k : Nat} (h : k < s.size) : ∃ b, s.data[k]? = some b := ⟨s.data[k]'h, Array.getElem?_eq_getElem h⟩
def acceptsM (o : Option AM) (s : ByteArray) : Bool := finM o (runM o s s.size)
theorem accepts_p {S : Nat → Prop} {H : Heap} {v : Value} {o : Option AM} {s : ByteArray} (hS : ∀ k, S k → k < H.size) (h : AutoV S H v o) (hs : s.size ≤ maxLen) :
    Pure Tryd.prog 25 #[v, .string s] H (.bool (acceptsM o s)) := by
  unfold maxLen at hs
  refine FnOk.of_vc Tryd.func25 rfl (Tryd.call25 _) ?_
  (conv => whnf)
  refine VLoop.mk [5, 9] (fun k : Nat => [.int .i64 (runM o s k), .int .i64 k]) (fun k H2 => k ≤ s.size ∧ Agr (Old H) H H2) (fun k _ => s.size - k) ?_ ?_
  · (conv => whnf); exact ⟨0, rfl, by omega, Agr.refl _ _⟩
  · rintro k H2 junk ⟨hk, ha2⟩
    have h2 := h.frame (ha2.mono hS)
    (conv => whnf); refine VIte.mk (fun h => ?_) (fun h => ?_) <;> simp only [decide_eq_true_eq, decide_eq_false_iff_not] at h
    · obtain ⟨b, hb⟩ := get_byte (s := s) (k := k) (by omega)
      (conv => whnf); refine vidxs strT rfl hb ?_
      (conv => whnf); refine pures (step_p (fun k hk => old_lt ha2 (hS k hk)) h2 (UInt8.toNat_lt b)) fun H3 ha3 => ?_
      (conv => whnf); rw [w64 (x := (k : Int) + 1) (by omega) (by omega)]
      exact ⟨rfl, k + 1, by rw [runM_succ hb]; simp, ⟨by omega, ha2.trans (ha3.mono fun k hk => old_lt ha2 hk)⟩, by omega⟩
    · obtain rfl : k = s.size := by omega
      (conv => whnf); refine pures (final_p h2) fun H3 ha3 => ?_
      (conv => whnf); exact ⟨rfl, ha2.trans (ha3.mono fun k hk => old_lt ha2 hk)⟩

open Classical in
noncomputable def aliveM : Option AM → Int → Bool
  | none, _ => false
  | some A, q => decide (LiveT A.next A.final q.toNat)
noncomputable def liveM (o : Option AM) (s : ByteArray) : Nat :=
  if aliveM o 0 then ((List.range s.size).find? fun i => !aliveM o (runM o s (i + 1))).getD s.size else 0
open Classical in
theorem alive_at {A : AM} {al : List Bool} (hall : al.length = A.next.length) (hlive : ∀ q : Nat, q < A.next.length → (al[q]? = some true ↔ LiveT A.next A.final q)) {q : Nat} (h : q < A.next.length) : al[q]? = some (aliveM (some A) (q : Int)) := by
  obtain ⟨f, hf⟩ := get_some (l := al) (k := q) (by omega)
  have := hlive q h
  rw [hf] at this ⊢
  congr 1
  simp only [aliveM, Int.toNat_natCast]
  cases f with
  | true => exact (decide_eq_true (this.1 rfl)).symm
  | false => exact (decide_eq_false fun hl => by have := this.2 hl; simp at this).symm
theorem stepM_range {A : AM} (hok : A.Ok) {q : Int} {b : Nat} (h0 : 0 ≤ q) (h1 : q < A.next.length) (hb : b < 256) : 0 ≤ stepM (some A) q b ∧ stepM (some A) q b < A.next.length := by
  obtain ⟨n, rfl⟩ := Int.eq_ofNat_of_zero_le h0
  obtain ⟨row, hrow⟩ := get_some (l := A.next) (k := n) (by omega)
  obtain ⟨c, hc⟩ := get_some (l := A.cell) (k := b) (by rw [hok.cell]; exact hb)
  have hrl := hok.rows row (List.mem_of_getElem? hrow)
  have hcp := hok.places c (List.mem_of_getElem? hc)
  obtain ⟨t, ht⟩ := get_some (l := row) (k := c) (by omega)
  unfold stepM
  rw [if_neg (by simp [stN]; omega)]
  simp only [Int.toNat_natCast, hrow, List.getD_eq_getElem?_getD, hc, Option.getD_some, ht]
  exact hrl.2 t (List.mem_of_getElem? ht)
theorem runM_range {A : AM} (hok : A.Ok) (s : ByteArray) : ∀ k, k ≤ s.size → 0 ≤ runM (some A) s k ∧ runM (some A) s k < A.next.length
  | 0, _ => ⟨Int.le_refl _, by have := hok.n1; simp only [runM, List.take_zero, List.foldl_nil]; omega⟩
  | k + 1, hk => by
    obtain ⟨b, hb⟩ := get_byte (s := s) (k := k) (by omega)
    obtain ⟨h0, h1⟩ := runM_range hok s k (by omega)
    rw [runM_succ hb]
    exact stepM_range hok h0 h1 (UInt8.toNat_lt b)
end Go.Proofs.YthomdogheamfpaaDoor
/- dfa.Cells; two and speaks of the laws of layer 5. -/
set_option linter.unusedVariables false
set_option linter.unusedSimpArgs false
set_option maxRecDepth 100000
namespace Go.Proofs.YthomdogheamfpaaDoor
open Go.VC
def twoM : AM := madeM [BitVec.allOnes 256] [[1], [0]] [false, true]
theorem two_sound : soundB [BitVec.allOnes 256] [[1], [0]] 2 = true := by rfl
theorem two_n : stN (some twoM) = 2 := rfl
theorem two_a : acceptsM (some twoM) ⟨#[97]⟩ = true := by kernel_rfl
theorem two_ab : acceptsM (some twoM) ⟨#[97, 98]⟩ = false := by kernel_rfl
theorem two_next : twoM.next = [[1], [0]] := by kernel_rfl
open Classical in
theorem two_alive : aliveM (some twoM) 0 = true := by
  have h1 : twoM.final[1]? = some true := rfl
  have h0 : LiveT twoM.next twoM.final 0 := .step (t := 1) (row := [1]) (by rw [two_next]; rfl) (List.mem_singleton.2 rfl) (.fin h1)
  simp only [aliveM]
  exact decide_eq_true h0
attribute [local irreducible] mRun

theorem tSet_ones : tSet.Ones := by
  intro S H cs x h u hu
  obtain rfl := h
  simp [setL] at hu
  rcases hu with rfl | rfl | rfl | rfl <;> rfl
theorem tSet_free : tSet.Free := fun S S' H H' cs x h => h
theorem SlD.ofBlk {α : Type} {T : Ty α} {S : Nat → Prop} {H : Heap} {b n : Nat} {e : TypeId} {l : List Value} {xs : List α} (hb : Blk H b e l) (hS : S b) (hr : T.reps S H l xs) (hn : n = xs.length) (hm : n ≤ maxLen) : SlD T S H (some ⟨b, 0, none⟩) n xs :=
  SlD.intro hS (Nat.le_of_eq hn.symm) hm (hb.cells (fun j v hv => by rw [Nat.zero_add]; exact hv)) hr
def cellsM : Option AM → List (BitVec 256)
  | none => [BitVec.allOnes 256]
  | some A => A.sets
def Fresh (H H' : Heap) (k : Nat) : Prop := H.size ≤ k ∧ k < H'.size
theorem cells_c {S : Nat → Prop} {H : Heap} {v : Value} {o : Option AM} (hS : ∀ k, S k → k < H.size) (h : AutoV S H v o) :
    FnOk Tryd.prog 40 #[v] H fun v' H' => Agr (Old H) H H' ∧ H.size ≤ H'.size ∧ ∃ a cap, v' = .slice a (cellsM o).length cap ∧ SlD tSet (Fresh H H') H' a cap (cellsM o) := by
  refine FnOk.of_vc Tryd.func40 rfl (Tryd.call40 _) ?_
  cases o with
  | none =>
    obtain rfl := h
    (conv => whnf); refine peqN ptrA ?_
    (conv => whnf); refine pures (span_p 0 255 (by decide) (by decide) H) fun H1 ha1 => ?_
    rw [spanS_full]
    have hs1 := old_size ha1
    (conv => whnf); refine vbuild1 sl83 (setL (BitVec.allOnes 256)) rfl rfl (by decide) (by decide) ?_
    intro b H2 hb hs2 hb2 ha2
    (conv => whnf)
    exact ⟨ha1.trans (ha2.mono fun k hk => by unfold Old at hk; omega), by omega, _, _, rfl, SlD.ofBlk hb2 ⟨by omega, by omega⟩ (Ty.reps_one rfl) rfl (by decide)⟩
  | some A =>
    obtain ⟨pb, rfl, hown, hok, ac, cc, an, cn, af, cf, aa, ca, al, hb, hsets, hnext, hfin, hal, hall, hlive⟩ := h
    have hcl : A.cell.length ≤ 256 := Nat.le_of_eq hok.cell
    have hsl := hok.sl
    (conv => whnf); refine peqS ptrA ?_
    (conv => whnf); refine fa fl127_0 ?_
    (conv => whnf); refine ld1 ct83 (by rw [hb.cell]; exact autoL_0) trivial ?_
    (conv => whnf); refine vappendD (T := tSet) (S := S) (lo := H.size) (xs := []) sl83 tSet_ones SlO.nil (Nat.le_refl _) (fun k hk => ⟨hS k hk, ?_⟩) hsets (by simp only [maxLen, List.length_nil]; omega) (by simp only [List.length_nil]; omega) ?_
    · rintro ⟨o, n, c, h⟩; cases h
    intro v2 H2 hown2 ha2 hs2 _
    rw [List.nil_append] at hown2
    have hown2' : SlO tSet (fun _ => False) H2 H.size 73 v2 A.sets := hown2.free tSet_free
    obtain ⟨ax, capx, rfl, hx, -⟩ := hown2'.view (S' := Fresh H H2) (fun k hk => hown2.lt hk) (fun k hk => hk.elim)
    (conv => whnf)
    exact ⟨ha2.mono fun k hk => ⟨hk, fun hb => by obtain ⟨o, n, c, h⟩ := hb; cases h⟩, hs2, ax, capx, rfl, hx⟩

theorem two_c (H : Heap) : FnOk Tryd.prog 66 #[] H fun v' H' => Agr (Old H) H H' ∧ H.size ≤ H'.size ∧ AutoV (Fresh H H') H' v' (some twoM) := by
  refine FnOk.of_vc Tryd.func66 rfl (Tryd.call66 _) ?_
  (conv => whnf); refine pures (span_p 0 255 (by decide) (by decide) H) fun H1 ha1 => ?_
  rw [spanS_full]
  have hs1 := old_size ha1
  (conv => whnf); refine vbuild1 sl83 (setL (BitVec.allOnes 256)) rfl rfl (by decide) (by decide) ?_
  intro b2 H2 hb2 hs2 hk2 ha2
  (conv => whnf); refine vbuild1 sl33 [.int .i64 1] rfl rfl (by decide) (by decide) ?_
  intro b3 H3 hb3 hs3 hk3 ha3
  (conv => whnf); refine vbuild1 sl33 [.int .i64 0] rfl rfl (by decide) (by decide) ?_
  intro b4 H4 hb4 hs4 hk4 ha4
  (conv => whnf); refine vbuild2 sl23 [.slice (some ⟨b3, 0, none⟩) 1 1] [.slice (some ⟨b4, 0, none⟩) 1 1] rfl rfl rfl rfl (by decide) (by decide) ?_
  intro b5 H5 hb5 hs5 hk5 ha5
  (conv => whnf); refine vbuild2 sl24 [.bool false] [.bool true] rfl rfl rfl rfl (by decide) (by decide) ?_
  intro b6 H6 hb6 hs6 hk6 ha6
  have hk5' := hk5.agr ha6 (show b5 < b6 by omega)
  have hk4' := (hk4.agr ha5 (show b4 < b5 by omega)).agr ha6 (show b4 < b6 by omega)
  have hk3' := ((hk3.agr ha4 (show b3 < b4 by omega)).agr ha5 (show b3 < b5 by omega)).agr ha6 (show b3 < b6 by omega)
  have hk2' := (((hk2.agr ha3 (show b2 < b3 by omega)).agr ha4 (show b2 < b4 by omega)).agr ha5 (show b2 < b5 by omega)).agr ha6 (show b2 < b6 by omega)
  have hA6 : Agr (Old H) H H6 := ((((ha1.trans (ha2.mono fun k hk => by unfold Old at hk; omega)).trans (ha3.mono fun k hk => by unfold Old at hk; omega)).trans (ha4.mono fun k hk => by unfold Old at hk; omega)).trans (ha5.mono fun k hk => by unfold Old at hk; omega)).trans (ha6.mono fun k hk => by unfold Old at hk; omega)
  have i1 : SlD tI (Fresh H H6) H6 (some ⟨b3, 0, none⟩) 1 [1] := SlD.ofBlk hk3' ⟨by omega, by omega⟩ (Ty.reps_one ⟨rfl, inI64 (by decide)⟩) rfl (by decide)
  have i2 : SlD tI (Fresh H H6) H6 (some ⟨b4, 0, none⟩) 1 [0] := SlD.ofBlk hk4' ⟨by omega, by omega⟩ (Ty.reps_one ⟨rfl, inI64 (by decide)⟩) rfl (by decide)
  (conv => whnf)
  refine VCall.mk (new_c (some ⟨b2, 0, none⟩) (some ⟨b5, 0, none⟩) (some ⟨b6, 0, none⟩) 1 2 2 [BitVec.allOnes 256] [[1], [0]] [false, true] (Fresh H H6) H6 (fun k hk => hk.2)
    (SlD.ofBlk hk2' ⟨by omega, by omega⟩ (Ty.reps_one rfl) rfl (by decide)) (SlD.ofBlk hk5' ⟨by omega, by omega⟩ ⟨[_], [_], rfl, ⟨_, _, rfl, i1⟩, Ty.reps_one ⟨_, _, rfl, i2⟩⟩ rfl (by decide)) (SlD.ofBlk hk6 ⟨by omega, by omega⟩ ⟨[_], [_], rfl, rfl, Ty.reps_one rfl⟩ rfl (by decide))) ?_
  rintro v7 H7 ⟨ha7, hs7, hv7⟩
  rw [show soundB [BitVec.allOnes 256] [[1], [0]] [false, true].length = true from two_sound] at hv7
  (conv => whnf)
  exact ⟨hA6.trans (ha7.mono fun k hk => by unfold Old at *; omega), by omega, hv7.mono fun k hk => ⟨by omega, hk.2⟩⟩

theorem speaks_p (H : Heap) : Pure Tryd.prog 30 #[] H (.bool true) := by
  refine FnOk.of_vc Tryd.func30 rfl (Tryd.call30 _) ?_
  (conv => whnf); refine VCall.mk (two_c H) ?_
  rintro v1 H1 ⟨ha1, hs1, pb, rfl, ha⟩
  have hv : AutoV (Fresh H H1) H1 (.pointer (some ⟨pb, 0, none⟩)) (some twoM) := ⟨pb, rfl, ha⟩
  (conv => whnf); refine pneqS ptrA ?_
  (conv => whnf); refine pures (states_p hv) fun H2 ha2 => ?_
  have hv2 := hv.frame (ha2.mono fun k hk => hk.2)
  rw [two_n]
  (conv => whnf); refine pures (accepts_p (fun k hk => old_lt ha2 hk.2) hv2 (by decide)) fun H3 ha3 => ?_
  have hv3 := hv2.frame (ha3.mono fun k hk => old_lt ha2 hk.2)
  rw [two_a]
  (conv => whnf); refine pures (accepts_p (fun k hk => old_lt ha3 (old_lt ha2 hk.2)) hv3 (by decide)) fun H4 ha4 => ?_
  rw [two_ab]
  (conv => whnf)
  exact ⟨rfl, ((ha1.trans (ha2.mono fun k hk => old_lt ha1 hk)).trans (ha3.mono fun k hk => old_lt ha2 (old_lt ha1 hk))).trans (ha4.mono fun k hk => old_lt ha3 (old_lt ha2 (old_lt ha1 hk)))⟩

end Go.Proofs.YthomdogheamfpaaDoor
/- dfa.Cells, as memory of the call's own. -/
set_option linter.unusedVariables false
set_option linter.unusedSimpArgs false
set_option maxRecDepth 100000
namespace Go.Proofs.YthomdogheamfpaaDoor
open Go.VC
attribute [local irreducible] mRun

/-! ### dfa.Cells, as memory of the call's own -/
theorem cells_o {S : Nat → Prop} {H : Heap} {v : Value} {o : Option AM} (hS : ∀ k, S k → k < H.size) (h : AutoV S H v o) :
    FnOk Tryd.prog 40 #[v] H fun v' H' => Agr (Old H) H H' ∧ H.size ≤ H'.size ∧ SlO tSet (fun _ => False) H' H.size 73 v' (cellsM o) := by
  refine FnOk.of_vc Tryd.func40 rfl (Tryd.call40 _) ?_
  cases o with
  | none =>
    obtain rfl := h
    (conv => whnf); refine peqN ptrA ?_
    (conv => whnf); refine pures (span_p 0 255 (by decide) (by decide) H) fun H1 ha1 => ?_
    rw [spanS_full]
    have hs1 := old_size ha1
    (conv => whnf); refine vbuild1 sl83 (setL (BitVec.allOnes 256)) rfl rfl (by decide) (by decide) ?_
    intro b H2 hb hs2 hb2 ha2
    (conv => whnf)
    exact ⟨ha1.trans (ha2.mono fun k hk => by unfold Old at hk; omega), by omega, SlO.ofBlk (by omega) hb2 (Ty.reps_one rfl) rfl (by decide)⟩
  | some A =>
    obtain ⟨pb, rfl, hown, hok, ac, cc, an, cn, af, cf, aa, ca, al, hb, hsets, hnext, hfin, hal, hall, hlive⟩ := h
    have hcl : A.cell.length ≤ 256 := Nat.le_of_eq hok.cell
    have hsl := hok.sl
    (conv => whnf); refine peqS ptrA ?_
    (conv => whnf); refine VC.fa fl127_0 ?_
    (conv => whnf); refine ld1 ct83 (by rw [hb.cell]; exact autoL_0) trivial ?_
    (conv => whnf); refine vappendD (T := tSet) (S := S) (lo := H.size) (xs := []) sl83 tSet_ones SlO.nil (Nat.le_refl _) (fun k hk => ⟨hS k hk, ?_⟩) hsets (by simp only [maxLen, List.length_nil]; omega) (by simp only [List.length_nil]; omega) ?_
    · rintro ⟨o, n, c, h⟩; cases h
    intro v2 H2 hown2 ha2 hs2 _
    rw [List.nil_append] at hown2
    (conv => whnf)
    exact ⟨ha2.mono fun k hk => ⟨hk, fun hb => by obtain ⟨o, n, c, h⟩ := hb; cases h⟩, hs2, hown2.free tSet_free⟩

end Go.Proofs.YthomdogheamfpaaDoor
