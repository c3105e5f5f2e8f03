/- The law NfaTurned: its walk. -/
import Derived.Test.YtlnmhfhdjnenoaaPSpk04
import Derived.Test.YtlnmhfhdjnenoaaPNfa7
import Derived.Test.YtlnmhfhdjnenoaaPNet04
set_option linter.unusedVariables false
set_option linter.unusedSimpArgs false
set_option maxRecDepth 100000
namespace Go.Proofs.Ytlnmhfhdjnenoaa
open Go.VC
theorem net_z : (Try.prog.info? 45).bind (·.zero) = some (.agg #[.int .i64 0, .int .i64 0, .int .i64 0, .slice none 0 0]) := rfl
theorem way_fill (x y : Int) (b : Bool) (w0 w1 w2 w3 : Value) {S : Nat → Prop} {H : Heap} {K : Value → Prop} (h0 : w0.oneCell' = true) (h1 : w1.oneCell' = true) (h2 : w2.oneCell' = true) (h3 : w3.oneCell' = true) (k : K (.agg [.int .i64 x, .int .i64 y, .bool b, w0, w1, w2, w3].toArray)) :
    VDet Try.prog (Instr.build 60 [(0, .int .i64 x), (1, .int .i64 y), (2, .bool b), (3, .agg [w0, w1, w2, w3].toArray)].toArray) S H K :=
  vbuildS Try.underlying60 rfl _ way_z [.int .i64 x, .int .i64 y, .bool b, w0, w1, w2, w3] (by kernel_rfl) k
theorem way_build (e : EdM) {S : Nat → Prop} {H : Heap} {K : Value → Prop} (k : K (.agg (edL e.turn).toArray)) :
    VDet Try.prog (Instr.build 60 [(0, .int .i64 e.to), (1, .int .i64 e.fr), (2, .bool e.sil), (3, .agg (setL e.set).toArray)].toArray) S H K := by
  unfold setL edL EdM.turn at *
  exact way_fill e.to e.fr e.sil _ _ _ _ rfl rfl rfl rfl k
def byV (x : Nat) : Value := .int .u8 (x : Int)
/-- The bytes turned so far. -/
def backL (bs : List Nat) (i : Nat) : List Value := List.replicate (bs.length - i) (byV 0) ++ (bs.take i).reverse.map byV
theorem backL_zero (bs : List Nat) : backL bs 0 = List.replicate bs.length (byV 0) := by simp [backL]
theorem backL_all (bs : List Nat) : backL bs bs.length = bs.reverse.map byV := by simp [backL]
theorem set_mid (z v : Value) (R : List Value) : ∀ k, (List.replicate (k + 1) z ++ R).set k v = List.replicate k z ++ v :: R
  | 0 => rfl
  | k + 1 => by
    rw [List.replicate_succ, List.cons_append, List.set_cons_succ, set_mid z v R k, List.replicate_succ, List.cons_append]
theorem backL_set {bs : List Nat} {i x : Nat} (h : bs[i]? = some x) : (backL bs i).set (bs.length - 1 - i) (byV x) = backL bs (i + 1) := by
  have hi := (List.getElem?_eq_some_iff.1 h).1
  unfold backL
  rw [show bs.length - i = (bs.length - 1 - i) + 1 by omega, set_mid, take_succ_snoc h, List.reverse_append, show bs.length - (i + 1) = bs.length - 1 - i by omega]
  rfl
theorem backL_len (bs : List Nat) {i : Nat} (h : i ≤ bs.length) : (backL bs i).length = bs.length := by
  unfold backL
  simp only [List.length_append, List.length_replicate, List.length_map, List.length_reverse, List.length_take]
  omega
theorem byN_of {l : List Nat} (h : ∀ x ∈ l, x < 256) : byN ⟨(l.map UInt8.ofNat).toArray⟩ = l := by
  unfold byN
  rw [List.map_map]
  refine (List.map_congr_left fun x hx => ?_).trans (List.map_id _)
  show (UInt8.ofNat x).toNat = x
  rw [UInt8.toNat_ofNat']
  exact Nat.mod_eq_of_lt (h x hx)
theorem byN_lt (s : ByteArray) : ∀ x ∈ byN s, x < 256 := by
  intro x hx
  unfold byN at hx
  obtain ⟨b, -, rfl⟩ := List.mem_map.1 hx
  exact UInt8.toNat_lt b
set_option maxHeartbeats 8000000 in
theorem nfaTurned_p (v : Value) (a : NfM) (s : ByteArray) (S : Nat → Prop) (H : Heap) (hS : ∀ k, S k → k < H.size) (h : NfV S H v a) (hs : s.size ≤ 1048576) :
    Pure Try.prog 6 #[v, .string s] H (.bool true) := by
  have hr := h.1
  have hl := h.2.1
  have hsm : s.size ≤ maxLen := by unfold maxLen; omega
  refine FnOk.of_vc Try.func6 rfl (Try.call6 _) ?_
  (conv => whnf); refine nf_box h fun ea ec he h1 => ?_
  subst he
  intro p H1 hp hs1 hb1 ha1
  have st1 := (St.nil H).box hp hs1 hb1 ha1
  (conv => whnf); refine pures (speaks04_p H1) fun H2 ha2 => ?_
  have st2 := st1.call ha2
  have hrt : a.turn.Rng := ⟨hr.1, hr.2.2, hr.2.1⟩
  have htl : a.turn.edges.length = a.edges.length := List.length_map _
  have hlt : a.turn.edges.length ≤ 1048576 := by rw [htl]; exact hl
  have hbl := byN_len s
  have hb2 := st2.blk 0 rfl
  (conv => whnf); refine fa fl45_0 ?_
  (conv => whnf); refine ld1 (v := .int .i64 a.st) ct3 (by rw [hb2.cell]; rfl) trivial ?_
  (conv => whnf); refine fa fl45_2 ?_
  (conv => whnf); refine ld1 (v := .int .i64 a.fin) ct3 (by rw [hb2.cell]; rfl) trivial ?_
  (conv => whnf); refine fa fl45_1 ?_
  (conv => whnf); refine ld1 (v := .int .i64 a.start) ct3 (by rw [hb2.cell]; rfl) trivial ?_
  (conv => whnf); refine vbuildS Try.underlying45 rfl _ net_z (nfL a.turn (.slice none 0 0)) rfl ?_
  (conv => whnf); refine valloc _ [.int .i64 0, .int .i64 0, .int .i64 0, .slice none 0 0] net_z rfl ?_
  intro r H3 hr3 hs3 hb3 ha3
  have st3 := st2.box hr3 hs3 hb3 ha3
  (conv => whnf); refine stNB (cs := nfL a.turn (.slice none 0 0)) st3 1 rfl rfl (Nat.le_refl _) rfl fun H4 st4 => ?_
  rw [splice_all (show (nfL a.turn (.slice none 0 0)).length = 4 from rfl)] at st4
  have st5 := st4.nils tEd 60
  (conv => whnf)
  refine VLoop.mk [6] (fun i : Nat => [.int .i64 (i : Int)]) (fun i H5 => i ≤ a.edges.length ∧ ∃ a' c', St H H5 [pB 45 p (nfL a (.slice ea a.edges.length ec)), pB 45 r (nfL a.turn (.slice a' i c')), pS tEd 60 a' i c' ((a.edges.take i).map EdM.turn)]) (fun i _ => a.edges.length - i) ?_ ?_
  · (conv => whnf)
    exact ⟨0, rfl, Nat.zero_le _, none, 0, st5⟩
  · rintro i H5 junk ⟨hi, a', c', st⟩
    (conv => whnf); refine fa fl45_3 ?_
    (conv => whnf); refine ld1 (v := .slice ea a.edges.length ec) ct43 (by rw [(st.blk 0 rfl).cell]; rfl) trivial ?_
    (conv => whnf); refine VIte.mk (fun hz => ?_) (fun hz => ?_) <;> simp only [decide_eq_true_eq, decide_eq_false_iff_not] at hz
    · obtain ⟨e, he⟩ := get_some (l := a.edges) (k := i) (by omega)
      (conv => whnf); refine fa fl45_3 ?_
      (conv => whnf); refine ld1 (v := .slice ea a.edges.length ec) ct43 (by rw [(st.blk 0 rfl).cell]; rfl) trivial ?_
      (conv => whnf); refine ixr (i := i) sl43 (h1.frame (st.old.mono hS)) he rfl ?_
      rintro b6 o6 c6 hS6 hc6 ⟨rfl, hok⟩
      (conv => whnf); refine ldN (cs := edL e) ag60 hc6 trivial ?_
      (conv => whnf); refine valloc _ [.int .i64 0, .int .i64 0, .bool false, .int .u64 0, .int .u64 0, .int .u64 0, .int .u64 0] way_z rfl ?_
      intro x H6 hx hs6 hb6 ha6
      have st6 := st.box hx hs6 hb6 ha6
      (conv => whnf); refine stNB (cs := edL e) st6 3 rfl rfl (Nat.le_refl _) rfl fun H7 st7 => ?_
      rw [splice_all (show (edL e).length = 7 from rfl)] at st7
      have hbx := st7.blk 3 rfl
      (conv => whnf); refine fa fl45_3 ?_
      (conv => whnf); refine ld1 (v := .slice a' i c') ct43 (by rw [(st7.blk 1 rfl).cell]; rfl) trivial ?_
      (conv => whnf); refine fa fl60_1 ?_
      (conv => whnf); refine ld1 (v := .int .i64 e.to) ct3 (by rw [hbx.cell]; rfl) trivial ?_
      (conv => whnf); refine fa fl60_0 ?_
      (conv => whnf); refine ld1 (v := .int .i64 e.fr) ct3 (by rw [hbx.cell]; rfl) trivial ?_
      (conv => whnf); refine fa fl60_2 ?_
      (conv => whnf); refine ld1 (v := .bool e.sil) ct4 (by rw [hbx.cell]; rfl) trivial ?_
      (conv => whnf); refine fa fl60_3 ?_
      (conv => whnf); refine ldN (cs := setL e.set) ag58 (hbx.cells fun j v hv => edL_set e j v hv) trivial ?_
      (conv => whnf); refine way_build e ?_
      (conv => whnf); refine vbuild1 sl43 (edL e.turn) rfl rfl (by decide) (by decide) ?_
      intro y H8 hy hs8 hb8 ha8
      have st8 := st7.skip hy ha8
      have htl2 : ((a.edges.take i).map EdM.turn).length = i := by rw [List.length_map, List.length_take]; omega
      (conv => whnf); refine appO (ys := [e.turn]) st8 2 sl43 rfl (hb8.cells (o := 0) (cs := edL e.turn) fun j v hv => by rw [Nat.zero_add]; exact hv) (Ty.reps_one ⟨rfl, hok.2, hok.1⟩) rfl (fun u hu => List.all_eq_true.1 (ed_ones e.turn) u hu) (by rw [htl2]; simp; omega) (by decide) fun a9 c9 H9 st9 _ => ?_
      rw [htl2] at st9 ⊢
      (conv => whnf); refine fa fl45_3 ?_
      (conv => whnf); refine st1B st9 1 ct43 rfl (show 3 < 4 by decide) rfl fun H10 st10 => ?_
      (conv => whnf); rw [w64 (x := (i : Int) + 1) (by omega) (by omega)]
      have htk : (a.edges.take i).map EdM.turn ++ [e.turn] = (a.edges.take (i + 1)).map EdM.turn := by rw [take_succ_snoc he, List.map_append]; rfl
      rw [htk] at st10
      exact ⟨rfl, i + 1, by simp, ⟨by omega, a9, c9, st10.pick [0, 1, 2] (by decide)⟩, by omega⟩
    · obtain rfl : i = a.edges.length := by omega
      rw [List.take_length] at st
      replace st : St H H5 [pB 45 p (nfL a (.slice ea a.edges.length ec)), pB 45 r (nfL a.turn (.slice a' a.turn.edges.length c')), pS tEd 60 a' a.turn.edges.length c' a.turn.edges] := by rw [htl]; exact st
      (conv => whnf); refine vmake1 sl61 rfl (by omega) (by omega) (by omega) (by omega) ?_
      intro nb H7 hnb hs7 hb7 ha7
      rw [Int.toNat_natCast] at hb7 ⊢
      have st7 := st.box hnb hs7 hb7 ha7
      rw [← hbl, show (Value.int IntKind.u8 0) = byV 0 from rfl, ← backL_zero] at st7
      (conv => whnf)
      refine VLoop.mk [9] (fun i : Nat => [.int .i64 (i : Int)]) (fun i H8 => i ≤ s.size ∧ St H H8 [pB 45 p (nfL a (.slice ea a.edges.length ec)), pB 45 r (nfL a.turn (.slice a' a.turn.edges.length c')), pS tEd 60 a' a.turn.edges.length c' a.turn.edges, pB 5 nb (backL (byN s) i)]) (fun i _ => s.size - i) ?_ ?_
      · (conv => whnf)
        exact ⟨0, rfl, Nat.zero_le _, st7⟩
      · rintro i H8 junk8 ⟨hi8, st8⟩
        (conv => whnf); refine VIte.mk (fun hz8 => ?_) (fun hz8 => ?_) <;> simp only [decide_eq_true_eq, decide_eq_false_iff_not] at hz8
        · obtain ⟨b, hb⟩ := getB (s := s) (k := i) (by omega)
          have w1 : IntKind.wrap .i64 ((s.size : Int) - 1) = (s.size : Int) - 1 := w64 (by omega) (by omega)
          have w2 : IntKind.wrap .i64 ((s.size : Int) - 1 - (i : Int)) = ((s.size - 1 - i : Nat) : Int) := by rw [w64 (by omega) (by omega)]; omega
          (conv => whnf); rw [w1]
          (conv => whnf); rw [w2]
          (conv => whnf); refine vidxs Try.underlying9 rfl hb ?_
          (conv => whnf); refine ix sl61 (by omega) (by omega) ?_
          rw [Nat.zero_add, Nat.mul_one, Int.toNat_natCast]
          (conv => whnf); refine st1B st8 3 ct5 rfl (by rw [backL_len _ (by omega)]; omega) rfl fun H9 st9 => ?_
          have hset := backL_set (byN_get hb)
          rw [hbl] at hset
          replace st9 : St H H9 [pB 45 p (nfL a (.slice ea a.edges.length ec)), pB 45 r (nfL a.turn (.slice a' a.turn.edges.length c')), pS tEd 60 a' a.turn.edges.length c' a.turn.edges, pB 5 nb (backL (byN s) (i + 1))] := by
            rw [Nat.zero_add] at st9
            rw [← hset]
            exact st9
          (conv => whnf); rw [w64 (x := (i : Int) + 1) (by omega) (by omega)]
          exact ⟨rfl, i + 1, by simp, ⟨by omega, st9⟩, by omega⟩
        · obtain rfl : i = s.size := by omega
          rw [← hbl, backL_all] at st8
          have hby : byN ⟨((byN s).reverse.map UInt8.ofNat).toArray⟩ = (byN s).reverse := byN_of fun x hx => byN_lt s x (List.mem_reverse.1 hx)
          have hacc : accN a.turn (byN ⟨((byN s).reverse.map UInt8.ofNat).toArray⟩) = accN a (byN s) := by rw [hby, acc_turn]
          have hbm : ByteArray.size ⟨((byN s).reverse.map UInt8.ofNat).toArray⟩ ≤ maxLen := by
            have := byN_len ⟨((byN s).reverse.map UInt8.ofNat).toArray⟩
            rw [hby, List.length_reverse, hbl] at this
            rw [← this]
            exact hsm
          have st10 := st8
          obtain ⟨H10, hH10⟩ : ∃ X, X = H8 := ⟨_, rfl⟩
          subst hH10
          (conv => whnf); refine VDraw.heldZ (Old H10) [] (sq [0,2,4,6] (.b 1 (.b 3 (.b 5 (.f 7 (.f 8 (sq [9] (.f 10 .e)))) 7 (.f 5 (.f 8 (sq [9] (.f 10 .e))))) 7 (.f 3 (.f 5 (.f 8 (sq [9] (.f 10 .e)))))) 7 (.f 1 (.f 3 (.f 5 (.f 8 (sq [9] (.f 10 .e)))))))) rfl (by kernel_rfl) ?_
          (conv => whnf); refine nf_load hr hl (st10.blk 0 rfl) ag45 (st10.in_ 0 rfl rfl).2 (h1.frame (st10.old.mono hS)) fun v10 v10n => ?_
          (conv => whnf); refine nf_load (S := Old H10) hrt hlt (st10.blk 1 rfl) ag45 (st10.in_ 1 rfl rfl).2 (st10.view 2 rfl) fun w10 v10t => ?_
          (conv => whnf); refine ⟨?_, ?_⟩
          · refine VCall.mk (machine04_c (fun k hk => st10.up (hS k hk)) v10n) ?_
            rintro _ H21 ⟨ha21, a21, c21, rfl, hw21⟩
            obtain ⟨a21', c21', e21, st21⟩ := st10.got ha21 hw21
            injection e21 with e211 e212 e213
            subst e211; subst e213
            have g21 : Agr (Old H10) H10 H21 := ha21
            refine ⟨g21, ?_⟩
            have m21 : NfV (Old H21) H21 (.agg (nfL a (.slice a21 a.edges.length c21)).toArray) a := ⟨hr, hl, a21, c21, rfl, st21.view 4 rfl⟩
            (conv => whnf); refine ⟨?_, ?_⟩
            · refine pures (accepts_n (fun k hk => hk) m21 hsm) fun H22 ha22 => ?_
              have st22 := st21.call ha22
              have g22 : Agr (Old H10) H10 H22 := g21.trans (ha22.mono fun k hk => old_lt g21 hk)
              refine ⟨g22, ?_⟩
              (conv => whnf); refine ⟨?_, ?_⟩
              · refine VCall.mk (machine04_c (a := a.turn) (fun k hk => old_lt g22 hk) (v10t.frame g22)) ?_
                rintro _ H23 ⟨ha23, a23, c23, rfl, hw23⟩
                obtain ⟨a23', c23', e23, st23⟩ := st22.got ha23 hw23
                injection e23 with e231 e232 e233
                subst e231; subst e233
                have g23 : Agr (Old H10) H10 H23 := g22.trans (ha23.mono fun k hk => old_lt g22 hk)
                refine ⟨g23, ?_⟩
                have m23 : NfV (Old H23) H23 (.agg (nfL a.turn (.slice a23 a.turn.edges.length c23)).toArray) a.turn := ⟨hrt, hlt, a23, c23, rfl, st23.view 5 rfl⟩
                (conv => whnf); refine vb2s (byN s).reverse rfl rfl rfl (fun j x hx => by rw [Nat.zero_add, (st23.blk 3 rfl).cell, List.getElem?_map, hx]; rfl) (by rw [List.length_reverse, byN_len]) ?_
                refine ⟨g23, ?_⟩
                (conv => whnf); refine pures (accepts_n (fun k hk => hk) m23 hbm) fun H24 ha24 => ?_
                have st24 := st23.call ha24
                have g24 : Agr (Old H10) H10 H24 := g23.trans (ha24.mono fun k hk => old_lt g23 hk)
                refine ⟨g24, ?_⟩
                rw [hacc]
                (conv => whnf); refine beq_b Try.underlying4 ?_
                rw [show (accN a (byN s) == accN a (byN s)) = true by simp]
                (conv => whnf)
                refine ⟨g24, ?_⟩
                (conv => whnf)
                exact ⟨rfl, st24.old⟩
              · refine vb2s (byN s).reverse rfl rfl rfl (fun j x hx => by rw [Nat.zero_add, (st22.blk 3 rfl).cell, List.getElem?_map, hx]; rfl) (by rw [List.length_reverse, byN_len]) ?_
                refine ⟨g22, ?_⟩
                (conv => whnf); refine VCall.mk (machine04_c (a := a.turn) (fun k hk => old_lt g22 hk) (v10t.frame g22)) ?_
                rintro _ H23 ⟨ha23, a23, c23, rfl, hw23⟩
                obtain ⟨a23', c23', e23, st23⟩ := st22.got ha23 hw23
                injection e23 with e231 e232 e233
                subst e231; subst e233
                have g23 : Agr (Old H10) H10 H23 := g22.trans (ha23.mono fun k hk => old_lt g22 hk)
                refine ⟨g23, ?_⟩
                have m23 : NfV (Old H23) H23 (.agg (nfL a.turn (.slice a23 a.turn.edges.length c23)).toArray) a.turn := ⟨hrt, hlt, a23, c23, rfl, st23.view 5 rfl⟩
                (conv => whnf); refine pures (accepts_n (fun k hk => hk) m23 hbm) fun H24 ha24 => ?_
                have st24 := st23.call ha24
                have g24 : Agr (Old H10) H10 H24 := g23.trans (ha24.mono fun k hk => old_lt g23 hk)
                refine ⟨g24, ?_⟩
                rw [hacc]
                (conv => whnf); refine beq_b Try.underlying4 ?_
                rw [show (accN a (byN s) == accN a (byN s)) = true by simp]
                (conv => whnf)
                refine ⟨g24, ?_⟩
                (conv => whnf)
                exact ⟨rfl, st24.old⟩
            · refine vb2s (byN s).reverse rfl rfl rfl (fun j x hx => by rw [Nat.zero_add, (st21.blk 3 rfl).cell, List.getElem?_map, hx]; rfl) (by rw [List.length_reverse, byN_len]) ?_
              refine ⟨g21, ?_⟩
              (conv => whnf); refine pures (accepts_n (fun k hk => hk) m21 hsm) fun H22 ha22 => ?_
              have st22 := st21.call ha22
              have g22 : Agr (Old H10) H10 H22 := g21.trans (ha22.mono fun k hk => old_lt g21 hk)
              refine ⟨g22, ?_⟩
              (conv => whnf); refine VCall.mk (machine04_c (a := a.turn) (fun k hk => old_lt g22 hk) (v10t.frame g22)) ?_
              rintro _ H23 ⟨ha23, a23, c23, rfl, hw23⟩
              obtain ⟨a23', c23', e23, st23⟩ := st22.got ha23 hw23
              injection e23 with e231 e232 e233
              subst e231; subst e233
              have g23 : Agr (Old H10) H10 H23 := g22.trans (ha23.mono fun k hk => old_lt g22 hk)
              refine ⟨g23, ?_⟩
              have m23 : NfV (Old H23) H23 (.agg (nfL a.turn (.slice a23 a.turn.edges.length c23)).toArray) a.turn := ⟨hrt, hlt, a23, c23, rfl, st23.view 5 rfl⟩
              (conv => whnf); refine pures (accepts_n (fun k hk => hk) m23 hbm) fun H24 ha24 => ?_
              have st24 := st23.call ha24
              have g24 : Agr (Old H10) H10 H24 := g23.trans (ha24.mono fun k hk => old_lt g23 hk)
              refine ⟨g24, ?_⟩
              rw [hacc]
              (conv => whnf); refine beq_b Try.underlying4 ?_
              rw [show (accN a (byN s) == accN a (byN s)) = true by simp]
              (conv => whnf)
              refine ⟨g24, ?_⟩
              (conv => whnf)
              exact ⟨rfl, st24.old⟩
          · refine vb2s (byN s).reverse rfl rfl rfl (fun j x hx => by rw [Nat.zero_add, (st10.blk 3 rfl).cell, List.getElem?_map, hx]; rfl) (by rw [List.length_reverse, byN_len]) ?_
            refine ⟨Agr.refl _ _, ?_⟩
            (conv => whnf); refine VCall.mk (machine04_c (fun k hk => st10.up (hS k hk)) v10n) ?_
            rintro _ H21 ⟨ha21, a21, c21, rfl, hw21⟩
            obtain ⟨a21', c21', e21, st21⟩ := st10.got ha21 hw21
            injection e21 with e211 e212 e213
            subst e211; subst e213
            have g21 : Agr (Old H10) H10 H21 := ha21
            refine ⟨g21, ?_⟩
            have m21 : NfV (Old H21) H21 (.agg (nfL a (.slice a21 a.edges.length c21)).toArray) a := ⟨hr, hl, a21, c21, rfl, st21.view 4 rfl⟩
            (conv => whnf); refine pures (accepts_n (fun k hk => hk) m21 hsm) fun H22 ha22 => ?_
            have st22 := st21.call ha22
            have g22 : Agr (Old H10) H10 H22 := g21.trans (ha22.mono fun k hk => old_lt g21 hk)
            refine ⟨g22, ?_⟩
            (conv => whnf); refine VCall.mk (machine04_c (a := a.turn) (fun k hk => old_lt g22 hk) (v10t.frame g22)) ?_
            rintro _ H23 ⟨ha23, a23, c23, rfl, hw23⟩
            obtain ⟨a23', c23', e23, st23⟩ := st22.got ha23 hw23
            injection e23 with e231 e232 e233
            subst e231; subst e233
            have g23 : Agr (Old H10) H10 H23 := g22.trans (ha23.mono fun k hk => old_lt g22 hk)
            refine ⟨g23, ?_⟩
            have m23 : NfV (Old H23) H23 (.agg (nfL a.turn (.slice a23 a.turn.edges.length c23)).toArray) a.turn := ⟨hrt, hlt, a23, c23, rfl, st23.view 5 rfl⟩
            (conv => whnf); refine pures (accepts_n (fun k hk => hk) m23 hbm) fun H24 ha24 => ?_
            have st24 := st23.call ha24
            have g24 : Agr (Old H10) H10 H24 := g23.trans (ha24.mono fun k hk => old_lt g23 hk)
            refine ⟨g24, ?_⟩
            rw [hacc]
            (conv => whnf); refine beq_b Try.underlying4 ?_
            rw [show (accN a (byN s) == accN a (byN s)) = true by simp]
            (conv => whnf)
            refine ⟨g24, ?_⟩
            (conv => whnf)
            exact ⟨rfl, st24.old⟩
end Go.Proofs.Ytlnmhfhdjnenoaa
