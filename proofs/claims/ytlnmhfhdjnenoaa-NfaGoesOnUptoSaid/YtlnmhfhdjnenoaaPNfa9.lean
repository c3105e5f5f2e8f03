/- The law NfaGoesOn: its walk. -/
import Derived.Test.YtlnmhfhdjnenoaaPSpk04
import Derived.Test.YtlnmhfhdjnenoaaPNfa7
import Derived.Test.YtlnmhfhdjnenoaaPNet04
set_option linter.unusedVariables false
set_option linter.unusedSimpArgs false
set_option maxRecDepth 100000
namespace Go.Proofs.Ytlnmhfhdjnenoaa
open Go.VC
section
open Go.VC
variable {α : Type} {T : Ty α} {e : TypeId} {a : Option Addr} {n cap : Nat} {xs : List α} {B : Nat → Prop} {H0 H : Heap} {ps : List Pc}
/-- append to an own slice that may be long. -/
theorem appL {P : Program} {t ty q o m cap2 by_ : Nat} {z : Value} {ys : List α} {ds : List Value} {K : Value → Heap → Prop} (st : StB B H0 H ps) (i : Nat) (ht : SlT P t e T.size by_ z) (hp : ps[i]? = some (pS T e a n cap xs))
    (hd : Cells H q o ds) (hy : T.reps none_ H ds ys) (hm : m = ys.length) (h1 : ∀ u ∈ ds, u.oneCell' = true) (h63 : xs.length + ys.length ≤ 68719476736) (hby : by_ ≤ 1024)
    (k : ∀ a' cap' H', StB B H0 H' (ps.set i (pS T e a' (xs.length + ys.length) cap' (xs ++ ys))) → Agr (fun k => k < H.size ∧ ¬ slB (.slice a n cap) k) H H' → K (.slice a' (xs.length + ys.length) cap') H') :
    VEff P (Builtin.append_ #[t, t] ty [.slice a n cap, .slice (some ⟨q, o, none⟩) m cap2].toArray) H K := by
  refine vappendO (T := T) (S := none_) (lo := 0) ht (st.at_ i hp).1 (Nat.zero_le _) (fun k hk => hk.elim) hd hy hm h1 (by unfold maxLen; omega) (by have := Nat.mul_le_mul h63 hby; omega) ?_
  intro v' H' hown hagr hsz hfr
  obtain ⟨a', cap', rfl⟩ := hown.hull
  rw [List.length_append] at hown hfr ⊢
  refine k a' cap' H' (st.upd i hp (hagr.mono fun k hk => ⟨hk.1, fun hb => hk.2 (.inl hb)⟩) _ ⟨hown, fun k hk => hk.elim⟩ (fun k hk => ?_) (fun k hk => ?_) hsz) hagr
  · rcases hk with hk | hk
    · rcases hfr k hk with h | h
      · exact .inl (.inl h)
      · exact .inr h
    · exact hk.elim
  · rcases hk with hk | hk
    · exact (hown.lt hk).2
    · exact hk.elim
end
/-- All that the second parts reach. -/
noncomputable def allN (a : NfM) (t : List Nat) (M : List Int) : List Int := M.flatMap fun p => rchL { a with start := p } t
theorem allN_snoc (a : NfM) (t : List Nat) (M : List Int) (p : Int) : allN a t (M ++ [p]) = allN a t M ++ rchL { a with start := p } t := by
  unfold allN
  rw [List.flatMap_append]
  simp
theorem allN_len (a : NfM) (t : List Nat) : ∀ (M : List Int), (allN a t M).length ≤ M.length * 65536
  | [] => Nat.zero_le _
  | p :: M => by
    have h1 := allN_len a t M
    have h2 : (rchL { a with start := p } t).length ≤ 65536 := lstS_len _
    have h3 : allN a t (p :: M) = rchL { a with start := p } t ++ allN a t M := by unfold allN; rw [List.flatMap_cons]
    rw [h3, List.length_append, List.length_cons]
    omega
theorem allN_mem (a : NfM) (s t : List Nat) (q : Int) : q ∈ allN a t (rchL a s) ↔ q ∈ rchL a (s ++ t) := by
  rw [rchL_mem, goes_on]
  unfold allN
  rw [List.mem_flatMap]
  constructor
  · rintro ⟨p, hp, hq⟩
    exact ⟨p, (rchL_mem a s p).1 hp, (rchL_mem _ t q).1 hq⟩
  · rintro ⟨p, hp, hq⟩
    exact ⟨p, (rchL_mem a s p).2 hp, (rchL_mem _ t q).2 hq⟩
theorem byN_app (s t : ByteArray) : byN (s ++ t) = byN s ++ byN t := by
  unfold byN
  rw [ByteArray.data_append, Array.toList_append, List.map_append]
set_option maxHeartbeats 8000000 in
theorem nfaGoesOn_p (v : Value) (a : NfM) (s t : ByteArray) (S : Nat → Prop) (H : Heap) (hS : ∀ k, S k → k < H.size) (h : NfV S H v a) (hs : s.size ≤ 1048576) (ht : t.size ≤ 1048576) :
    Pure Try.prog 5 #[v, .string s, .string t] H (.bool true) := by
  have hr := h.1
  have hl := h.2.1
  have hsm : s.size ≤ maxLen := by unfold maxLen; omega
  refine FnOk.of_vc Try.func5 rfl (Try.call5 _) ?_
  (conv => whnf); refine nf_box h fun ea ec he h1 => ?_
  subst he
  intro p H1 hp hs1 hb1 ha1
  have st1 := (St.nil H).box hp hs1 hb1 ha1
  (conv => whnf); refine pures (speaks04_p H1) fun H2 ha2 => ?_
  have st2 := st1.call ha2
  (conv => whnf); refine nf_load hr hl (st2.blk 0 rfl) ag45 trivial (h1.frame (st2.old.mono hS)) fun v2 hv2 => ?_
  (conv => whnf); refine VCall.mk (machine04_c (fun k hk => st2.up (hS k hk)) hv2) ?_
  rintro _ H3 ⟨ha3, a3, c3, rfl, hw3⟩
  obtain ⟨a3', c3', e3, st3⟩ := st2.got ha3 hw3
  injection e3 with e31 e32 e33
  subst e31; subst e33
  (conv => whnf); refine valloc _ [.int .i64 0, .int .i64 0, .int .i64 0, .slice none 0 0] nfa_z rfl ?_
  intro q H4 hq hs4 hb4 ha4
  have st4 := st3.box hq hs4 hb4 ha4
  (conv => whnf); refine stNB (cs := nfL a (.slice a3 a.edges.length c3)) st4 2 rfl rfl (Nat.le_refl _) rfl fun H5 st5 => ?_
  rw [splice_all (show (nfL a (.slice a3 a.edges.length c3)).length = 4 from rfl)] at st5
  have htm : t.size ≤ maxLen := by unfold maxLen; omega
  have hstm : s.size + t.size ≤ maxLen := by unfold maxLen; omega
  (conv => whnf); refine nf_load hr hl (st5.blk 2 rfl) ag25 trivial (st5.view 1 rfl) fun v5 hv5 => ?_
  (conv => whnf); refine VCall.mk (reach_n (fun k hk => hk) hv5 hsm) ?_
  rintro _ H6 ⟨ha6, a6, c6, rfl, hw6⟩
  obtain ⟨a6', c6', e6, st6⟩ := st5.got ha6 hw6
  injection e6 with e61 e62 e63
  subst e61; subst e63
  (conv => whnf); refine nf_load hr hl (st6.blk 2 rfl) ag25 trivial (st6.view 1 rfl) fun v6 hv6 => ?_
  (conv => whnf); refine vcat hstm ?_
  (conv => whnf); refine VCall.mk (reach_n (s := s ++ t) (fun k hk => hk) hv6 (by rw [ByteArray.size_append]; exact hstm)) ?_
  rintro _ H7 ⟨ha7, a7, c7, rfl, hw7⟩
  obtain ⟨a7', c7', e7, st7⟩ := st6.got ha7 hw7
  injection e7 with e71 e72 e73
  subst e71; subst e73
  rw [byN_app] at st7 ⊢
  have hmem := allN_mem a (byN s) (byN t)
  have hMl : (rchL a (byN s)).length ≤ 65536 := lstS_len _
  have hMr : ∀ x ∈ rchL a (byN s), 0 ≤ x ∧ x < 65536 := fun x hx => has_rng (rchS_has a (byN s)) x ((rchL_mem a _ x).1 hx)
  have hWl : (rchL a (byN s ++ byN t)).length ≤ 65536 := lstS_len _
  have hWs : (rchL a (byN s ++ byN t)).Pairwise (· < ·) := lstS_srt _
  generalize rchL a (byN s) = M at *
  generalize rchL a (byN s ++ byN t) = W at *
  have st8 := st7.nils tIk 3
  have hal : ∀ i, (allN a (byN t) (M.take i)).length ≤ 4294967296 := fun i => by
    have h1 := allN_len a (byN t) (M.take i)
    have h2 : (M.take i).length ≤ 65536 := by rw [List.length_take]; omega
    omega
  (conv => whnf)
  refine VLoop.mk [10, 11] (fun x : Nat × Option Addr × Nat => match x with | (i, a9, c9) => [.slice a9 (allN a (byN t) (M.take i)).length c9, .int .i64 (i : Int)])
    (fun x H9 => x.1 ≤ M.length ∧ St H H9 [pB 45 p (nfL a (.slice ea a.edges.length ec)), pS tEd 81 a3 a.edges.length c3 a.edges, pB 25 q (nfL a (.slice a3 a.edges.length c3)), pS tIk 3 a6 M.length c6 M, pS tIk 3 a7 W.length c7 W, pS tIk 3 x.2.1 (allN a (byN t) (M.take x.1)).length x.2.2 (allN a (byN t) (M.take x.1))]) (fun x _ => M.length - x.1) ?_ ?_
  · (conv => whnf)
    exact ⟨(0, none, 0), rfl, Nat.zero_le _, st8⟩
  · rintro ⟨i, a9, c9⟩ H9 junk9 ⟨hi, st9⟩
    simp only at hi st9
    (conv => whnf); refine VIte.mk (fun hz => ?_) (fun hz => ?_) <;> simp only [decide_eq_true_eq, decide_eq_false_iff_not] at hz
    · obtain ⟨x, hx⟩ := get_some (l := M) (k := i) (by omega)
      have hxr := hMr x (List.mem_of_getElem? hx)
      have hai := hal (i + 1)
      have hrx : NfM.Rng { a with start := x } := ⟨hr.1, kint hxr, hr.2.2⟩
      (conv => whnf); refine ldN (cs := nfL a (.slice a3 a.edges.length c3)) ag25 ((st9.blk 2 rfl).cells fun j v hv => by rw [Nat.zero_add]; exact hv) trivial ?_
      (conv => whnf); refine valloc _ [.int .i64 0, .int .i64 0, .int .i64 0, .slice none 0 0] nfa_z rfl ?_
      intro y H10 hy hs10 hb10 ha10
      have st10 := st9.box hy hs10 hb10 ha10
      (conv => whnf); refine stNB (cs := nfL a (.slice a3 a.edges.length c3)) st10 6 rfl rfl (Nat.le_refl _) rfl fun H11 st11 => ?_
      rw [splice_all (show (nfL a (.slice a3 a.edges.length c3)).length = 4 from rfl)] at st11
      (conv => whnf); refine ixr (i := i) sl47 (st11.view 3 rfl) hx rfl ?_
      rintro b12 o12 c12 hS12 hc12 ⟨rfl, hxk⟩
      (conv => whnf); refine ld1 ct3 hc12.one trivial ?_
      (conv => whnf); refine fa fl25_1 ?_
      (conv => whnf); refine st1B st11 6 ct3 rfl (show 1 < 4 by decide) rfl fun H12 st12 => ?_
      replace st12 : St H H12 [pB 45 p (nfL a (.slice ea a.edges.length ec)), pS tEd 81 a3 a.edges.length c3 a.edges, pB 25 q (nfL a (.slice a3 a.edges.length c3)), pS tIk 3 a6 M.length c6 M, pS tIk 3 a7 W.length c7 W, pS tIk 3 a9 (allN a (byN t) (M.take i)).length c9 (allN a (byN t) (M.take i)), pB 25 y (nfL { a with start := x } (.slice a3 a.edges.length c3))] := st12
      (conv => whnf); refine nf_load (a := { a with start := x }) hrx hl (st12.blk 6 rfl) ag25 trivial (st12.view 1 rfl) fun v12 hv12 => ?_
      (conv => whnf); refine VCall.mk (reach_n (fun k hk => hk) hv12 htm) ?_
      rintro _ H13 ⟨ha13, a13, c13, rfl, hw13⟩
      obtain ⟨a13', c13', e13, st13⟩ := st12.got ha13 hw13
      injection e13 with e131 e132 e133
      subst e131; subst e133
      have hLl : (rchL { a with start := x } (byN t)).length ≤ 65536 := lstS_len _
      have hsn : allN a (byN t) (M.take (i + 1)) = allN a (byN t) (M.take i) ++ rchL { a with start := x } (byN t) := by rw [take_succ_snoc hx, allN_snoc]
      rw [hsn, List.length_append] at hai
      obtain ⟨L, hL⟩ : ∃ L, L = rchL { a with start := x } (byN t) := ⟨_, rfl⟩
      rw [← hL] at st13 hLl hsn hai
      (conv => whnf)
      rw [← hL]
      refine VLoop.mk [10, 14] (fun z : Nat × Option Addr × Nat => match z with | (j, a14, c14) => [.slice a14 (allN a (byN t) (M.take i) ++ L.take j).length c14, .int .i64 (j : Int)])
        (fun z H14 => z.1 ≤ L.length ∧ St H H14 [pB 45 p (nfL a (.slice ea a.edges.length ec)), pS tEd 81 a3 a.edges.length c3 a.edges, pB 25 q (nfL a (.slice a3 a.edges.length c3)), pS tIk 3 a6 M.length c6 M, pS tIk 3 a7 W.length c7 W, pS tIk 3 z.2.1 (allN a (byN t) (M.take i) ++ L.take z.1).length z.2.2 (allN a (byN t) (M.take i) ++ L.take z.1), pS tIk 3 a13 L.length c13 L]) (fun z _ => L.length - z.1) ?_ ?_
      · (conv => whnf)
        exact ⟨(0, a9, c9), by simp only [List.take_zero, List.append_nil]; rfl, Nat.zero_le _, by simp only [List.take_zero, List.append_nil]; exact st13.pick [0, 1, 2, 3, 4, 5, 7] (by decide)⟩
      · rintro ⟨j, a14, c14⟩ H14 junk14 ⟨hj, st14⟩
        simp only at hj st14
        (conv => whnf); refine VIte.mk (fun hz2 => ?_) (fun hz2 => ?_) <;> simp only [decide_eq_true_eq, decide_eq_false_iff_not] at hz2
        · obtain ⟨w, hw⟩ := get_some (l := L) (k := j) (by omega)
          (conv => whnf); refine ixr (i := j) sl47 (st14.view 6 rfl) hw rfl ?_
          rintro b15 o15 c15 hS15 hc15 ⟨rfl, hwk⟩
          (conv => whnf); refine ld1 ct3 hc15.one trivial ?_
          (conv => whnf); refine vbuild1 sl47 [.int .i64 w] rfl rfl (by decide) (by decide) ?_
          intro y2 H15 hy2 hs15 hb15 ha15
          have st15 := st14.skip hy2 ha15
          have htk : (L.take j).length = j := by rw [List.length_take]; omega
          (conv => whnf); refine appL (ys := [w]) st15 5 sl47 rfl (hb15.cells (o := 0) (cs := [.int .i64 w]) fun j v hv => by rw [Nat.zero_add]; exact hv) (Ty.reps_one ⟨rfl, hwk⟩) rfl (fun u hu => by cases List.mem_singleton.1 hu; rfl) (by rw [List.length_append, htk]; simp; omega) (by decide) fun a16 c16 H16 st16 _ => ?_
          have hap : (allN a (byN t) (M.take i) ++ L.take j) ++ [w] = allN a (byN t) (M.take i) ++ L.take (j + 1) := by rw [take_succ_snoc hw, List.append_assoc]
          have hap2 : (allN a (byN t) (M.take i) ++ L.take j).length + [w].length = (allN a (byN t) (M.take i) ++ L.take (j + 1)).length := by rw [← hap]; exact List.length_append.symm
          rw [hap, hap2] at st16
          rw [hap2]
          (conv => whnf); rw [w64 (x := (j : Int) + 1) (by omega) (by omega)]
          exact ⟨rfl, (j + 1, a16, c16), by simp, ⟨by simp only; omega, st16⟩, by simp only; omega⟩
        · obtain rfl : j = L.length := by omega
          rw [List.take_length, ← hsn] at st14
          rw [List.take_length, ← hsn]
          (conv => whnf); rw [w64 (x := (i : Int) + 1) (by omega) (by omega)]
          exact ⟨rfl, (i + 1, a14, c14), by simp, ⟨by simp only; omega, st14.pick [0, 1, 2, 3, 4, 5] (by decide)⟩, by simp only; omega⟩
    · obtain rfl : i = M.length := by omega
      have hal2 := hal M.length
      rw [List.take_length] at st9 hal2
      rw [List.take_length]
      generalize allN a (byN t) M = A at *
      (conv => whnf)
      refine VLoop.mk [15] (fun i : Nat => [.int .i64 (i : Int)]) (fun i H10 => i ≤ W.length ∧ St H H10 [pB 45 p (nfL a (.slice ea a.edges.length ec)), pS tEd 81 a3 a.edges.length c3 a.edges, pB 25 q (nfL a (.slice a3 a.edges.length c3)), pS tIk 3 a6 M.length c6 M, pS tIk 3 a7 W.length c7 W, pS tIk 3 a9 A.length c9 A]) (fun i _ => W.length - i) ?_ ?_
      · (conv => whnf)
        exact ⟨0, rfl, Nat.zero_le _, st9⟩
      · rintro i H10 junk10 ⟨hi2, st10⟩
        (conv => whnf); refine VIte.mk (fun hz2 => ?_) (fun hz2 => ?_) <;> simp only [decide_eq_true_eq, decide_eq_false_iff_not] at hz2
        · obtain ⟨x, hx⟩ := get_some (l := W) (k := i) (by omega)
          have hxA : decide (x ∈ A) = true := decide_eq_true ((hmem x).2 (List.mem_of_getElem? hx))
          (conv => whnf); refine VDraw.lex rfl (by kernel_rfl) ?_
          rcases Nat.eq_zero_or_pos i with hi0 | hi0
          · subst hi0
            (conv => whnf); refine ixr (i := 0) sl47 (st10.view 4 rfl) hx rfl ?_
            rintro b12 o12 c12 hS12 hc12 ⟨rfl, hxk⟩
            (conv => whnf); refine ld1 ct3 hc12.one trivial ?_
            (conv => whnf); refine pures (holds04_p (S := Old H10) (fun k hk => hk) (st10.view 5 rfl)) fun H11 ha11 => ?_
            have st11 := st10.call ha11
            rw [hxA]
            (conv => whnf); rw [w64 (x := ((0 : Nat) : Int) + 1) (by omega) (by omega)]
            exact ⟨rfl, 0 + 1, by simp, ⟨by omega, st11⟩, by omega⟩
          · obtain ⟨y, hy⟩ := get_some (l := W) (k := i - 1) (by omega)
            have hyx : y < x := srt_get hWs (by omega) hy hx
            have d1 : decide ((0 : Int) < (i : Int)) = true := decide_eq_true (by omega)
            have d2 : decide (x ≤ y) = false := decide_eq_false (by omega)
            have w1 : IntKind.wrap .i64 ((i : Int) - 1) = ((i - 1 : Nat) : Int) := by rw [w64 (by omega) (by omega)]; omega
            (conv => whnf); rw [d1]
            (conv => whnf); refine ixr (i := i) sl47 (st10.view 4 rfl) hx rfl ?_
            rintro b12 o12 c12 hS12 hc12 ⟨rfl, hxk⟩
            (conv => whnf); refine ld1 ct3 hc12.one trivial ?_
            (conv => whnf); rw [w1]
            (conv => whnf); refine ixr (i := i - 1) sl47 (st10.view 4 rfl) hy rfl ?_
            rintro b13 o13 c13 hS13 hc13 ⟨rfl, -⟩
            (conv => whnf); refine ld1 ct3 hc13.one trivial ?_
            (conv => whnf); rw [d2]
            (conv => whnf); refine ixr (i := i) sl47 (st10.view 4 rfl) hx rfl ?_
            rintro b14 o14 c14 hS14 hc14 ⟨rfl, -⟩
            (conv => whnf); refine ld1 ct3 hc14.one trivial ?_
            (conv => whnf); refine pures (holds04_p (S := Old H10) (fun k hk => hk) (st10.view 5 rfl)) fun H11 ha11 => ?_
            have st11 := st10.call ha11
            rw [hxA]
            (conv => whnf); rw [w64 (x := (i : Int) + 1) (by omega) (by omega)]
            exact ⟨rfl, i + 1, by simp, ⟨by omega, st11⟩, by omega⟩
        · (conv => whnf)
          refine VLoop.mk [16] (fun i : Nat => [.int .i64 (i : Int)]) (fun i H11 => i ≤ A.length ∧ St H H11 [pB 45 p (nfL a (.slice ea a.edges.length ec)), pS tEd 81 a3 a.edges.length c3 a.edges, pB 25 q (nfL a (.slice a3 a.edges.length c3)), pS tIk 3 a6 M.length c6 M, pS tIk 3 a7 W.length c7 W, pS tIk 3 a9 A.length c9 A]) (fun i _ => A.length - i) ?_ ?_
          · (conv => whnf)
            exact ⟨0, rfl, Nat.zero_le _, st10⟩
          · rintro k H11 junk11 ⟨hk2, st11⟩
            (conv => whnf); refine VIte.mk (fun hz3 => ?_) (fun hz3 => ?_) <;> simp only [decide_eq_true_eq, decide_eq_false_iff_not] at hz3
            · obtain ⟨x, hx⟩ := get_some (l := A) (k := k) (by omega)
              have hxW : decide (x ∈ W) = true := decide_eq_true ((hmem x).1 (List.mem_of_getElem? hx))
              (conv => whnf); refine ixr (i := k) sl47 (st11.view 5 rfl) hx rfl ?_
              rintro b12 o12 c12 hS12 hc12 ⟨rfl, hxk⟩
              (conv => whnf); refine ld1 ct3 hc12.one trivial ?_
              (conv => whnf); refine pures (holds04_p (S := Old H11) (fun k hk => hk) (st11.view 4 rfl)) fun H12 ha12 => ?_
              have st12 := st11.call ha12
              rw [hxW]
              (conv => whnf); rw [w64 (x := (k : Int) + 1) (by omega) (by omega)]
              exact ⟨rfl, k + 1, by simp, ⟨by omega, st12⟩, by omega⟩
            · (conv => whnf)
              exact ⟨rfl, st11.old⟩
end Go.Proofs.Ytlnmhfhdjnenoaa
