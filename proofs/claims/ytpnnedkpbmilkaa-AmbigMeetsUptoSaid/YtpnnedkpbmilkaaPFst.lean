import Derived.Test.YtpnnedkpbmilkaaPGr
import Derived.Test.YtpnnedkpbmilkaaVMapX
/- ambig's graphs in memory; maps of slices that begin with nil ones. -/
set_option linter.unusedVariables false
set_option linter.unusedSimpArgs false
set_option maxRecDepth 100000
namespace Go.VC
section
variable {α β : Type} {Ok : α → Prop} {enc : α → Value} {T : Ty β} {e : TypeId} {b : Nat} {m : α → Option Value} {B : Nat → Prop} {H0 H H' : Heap} {ps : List Pc}
theorem StB.mqNil (st : StB B H0 H ps) (i : Nat) (hp : ps[i]? = some (pMW Ok enc b m)) (hm : ∀ a, slAt m a = .slice none 0 0) : StB B H0 H (ps.set i (pMQ Ok enc T e b m fun _ => [])) := by
  refine st.upd i hp (Agr.refl _ _) _ ⟨st.mapW i hp, fun a => by rw [hm]; exact SlO.nil, fun a a' k _ hk => ?_, fun a hk => ?_⟩ (fun k hk => ?_) (fun k hk => ?_) (Nat.le_refl _)
  · rw [hm] at hk; exact absurd hk nil_slB
  · rw [hm] at hk; exact nil_slB hk
  · rcases hk with hk | ⟨a, hk⟩
    · exact .inl hk
    · rw [hm] at hk; exact absurd hk nil_slB
  · rcases hk with hk | ⟨a, hk⟩
    · exact (st.in_ i hp hk).2
    · rw [hm] at hk; exact absurd hk nil_slB
theorem agr_lt {S : Nat → Prop} {H H' : Heap} {k : Nat} (h : Agr S H H') (hk : S k) (hl : k < H.size) : k < H'.size := by
  have e := h k hk
  rw [Array.getElem?_eq_getElem hl] at e
  exact (Array.getElem?_eq_some_iff.1 e).1
theorem StB.apart {p q : Pc} (st : StB B H0 H ps) {i j : Nat} (hij : i < j) (hp : ps[i]? = some p) (hq : ps[j]? = some q) : Dis p q := by
  obtain ⟨h1, h2⟩ := List.getElem?_eq_some_iff.1 hp
  obtain ⟨k1, k2⟩ := List.getElem?_eq_some_iff.1 hq
  have := List.pairwise_iff_getElem.1 st.dis i j h1 k1 hij
  rwa [h2, k2] at this
/-- The address of an element, to be read, and its block. -/
theorem ixOa {xs : List β} {x : β} {n cap : Nat} {a : Option Addr} {P : Program} {t by_ j : Nat} {z : Value} {k : IntKind} {ji : Int} {S0 : Nat → Prop} {H2 : Heap} {K : Value → Prop} (ht : SlT P t e T.size by_ z) (st : StB B H0 H ps) (i : Nat) (hp : ps[i]? = some (pS T e a n cap xs))
    (hx : xs[j]? = some x) (hj : ji = (j : Int)) (hk : ∀ b o c, slB (.slice a n cap) b → Old H b → Cells H b o c → T.rep (Old H) H c x → K (.pointer (some ⟨b, o, none⟩))) : VDet P (Instr.indexAt t (.slice a n cap) (.int k ji)) S0 H2 K := by
  have h := st.view i hp
  have hn := st.len i hp
  obtain ⟨b, o, c, rfl, h1, h2, h3⟩ := h.get hx
  subst hj
  have hi := (List.getElem?_eq_some_iff.1 hx).1
  exact ix ht (by omega) (by omega) (by simpa using hk b _ c ⟨_, _, _, rfl⟩ h1 h2 h3)
end
end Go.VC
namespace Go.Proofs.Ytpnnedkpbmilkaa
open Go.VC
theorem mapB : MapTW Try.prog 129 114 115 (.slice none 0 0) := ⟨rfl, rfl⟩
theorem mapL : MapTW Try.prog 132 114 3 (.int .i64 0) := ⟨rfl, rfl⟩
theorem root_ok : root.Ok := ⟨inI64 (x := 0) (by decide), inI64 (x := 0) (by decide), inI64 (x := 0) (by decide)⟩
theorem node_z : (Try.prog.info? 114).bind (·.zero) = some (ndV root) := by kernel_rfl
/-- What is asked of a graph: its bytes, its nodes, their numbers. -/
structure GraphOk (g : Gr) (by_ : List Nat) (M C : Nat) : Prop where
  byl : ∀ b ∈ by_, b < 256
  nb : by_.length ≤ 256
  ok : ∀ n, Reach g by_ root n → n.Ok
  card : ∀ l : List Nd, l.Nodup → (∀ n ∈ l, Reach g by_ root n) → l.length ≤ M
  occ : ∀ n b t, Reach g by_ root n → b ∈ by_ → (g.next n b).count t ≤ C
  c0 : 1 ≤ C
  big : C * (256 * M) ≤ 5864062014805
/-- A graph in memory. -/
structure GraphV (S : Nat → Prop) (H : Heap) (v : Value) (g : Gr) (by_ : List Nat) : Prop where
  out : ∃ (pg : Nat) (ba : Option Addr) (bc : Nat) (f e : FuncId) (fs cs es ds : List Value), v = .pointer (some ⟨pg, 0, none⟩) ∧ S pg ∧
    Blk H pg 112 [.slice ba by_.length bc, .func (.func f) fs.toArray cs.toArray, .func (.func e) es.toArray ds.toArray] ∧ SlD (tInt .u8) S H ba bc (by_.map fun (b : Nat) => (b : Int)) ∧
    (∀ H', Agr S H H' → ∀ n b, Reach g by_ root n → b ∈ by_ → FnOk Try.prog f (fs ++ [ndV n, .int .u8 (b : Int)] ++ cs).toArray H' fun v H'' => Agr (Old H') H' H'' ∧ SlO tNd none_ H'' H'.size 114 v (g.next n b)) ∧
    (∀ H', Agr S H H' → ∀ n, Reach g by_ root n → Pure Try.prog e (es ++ [ndV n] ++ ds).toArray H' (.bool (g.ends n)))
theorem GraphV.frame {S : Nat → Prop} {H H' : Heap} {v : Value} {g : Gr} {by_ : List Nat} (h : GraphV S H v g by_) (k : Agr S H H') : GraphV S H' v g by_ := by
  obtain ⟨pg, ba, bc, f, e, fs, cs, es, ds, h1, h2, h3, h4, h5, h6⟩ := h
  exact ⟨pg, ba, bc, f, e, fs, cs, es, ds, h1, h2, h3.agr k h2, h4.frame k, fun H2 k2 => h5 H2 (k.trans k2), fun H2 k2 => h6 H2 (k.trans k2)⟩
theorem spliceN (n t : Nd) : splice (ndL n) 0 (ndL t) = ndL t := rfl
theorem count_take {l : List Nd} {t : Nd} (j : Nat) : (l.take j).count t ≤ l.count t := by
  conv => rhs; rw [← List.take_append_drop j l, List.count_append]
  omega
theorem count_succ {l : List Nd} {t : Nd} {j : Nat} (h : l[j]? = some t) : (l.take j).count t + 1 ≤ l.count t := by
  have := count_take (l := l) (t := t) (j + 1)
  rw [take_succ_snoc h, List.count_append, List.count_singleton_self] at this
  omega
theorem row_le {i k nb M : Nat} (hi : i < M) (hk : k < nb) (hnb : nb ≤ 256) : i * nb + k + 1 ≤ 256 * M := by
  have h1 : (i + 1) * nb ≤ M * nb := Nat.mul_le_mul_right _ hi
  have h2 : M * nb ≤ M * 256 := Nat.mul_le_mul_left _ hnb
  rw [Nat.succ_mul] at h1
  omega
end Go.Proofs.Ytpnnedkpbmilkaa

/- ambig's reach: the walk. -/
set_option linter.unusedVariables false
set_option linter.unusedSimpArgs false
set_option maxRecDepth 100000
namespace Go.Proofs.Ytpnnedkpbmilkaa
open Go.VC
set_option maxHeartbeats 8000000 in
theorem reach_c {S : Nat → Prop} {H : Heap} {v : Value} {g : Gr} {by_ : List Nat} {M C : Nat} (hS : ∀ k, S k → k < H.size) (hg : GraphOk g by_ M C) (hv : GraphV S H v g by_) :
    FnOk Try.prog 87 #[v] H fun v H' => ∃ (a : Option Addr) (c : Nat) (order : List Nd) (mb : Nat) (m : Nd → Option Value) (xs : Nd → List Nd), v = .tuple #[.slice a order.length c, .map (some mb)] ∧
      St H H' [pS tNd 114 a order.length c order, pMQ Nd.Ok ndV tNd 114 mb m xs] ∧ order.Nodup ∧ (∀ n, n ∈ order ↔ Reach g by_ root n) ∧ ∀ t p, p ∈ xs t ↔ Reach g by_ root p ∧ ∃ b, b ∈ by_ ∧ t ∈ g.next p b := by
  obtain ⟨pg, ba, bc, f, e, fs, cs, es, ds, rfl, hpg, hblk, hby, hnext, hends⟩ := hv
  have hnb := hg.nb
  have hbig := hg.big
  have hc0 := hg.c0
  have hMC : 256 * M ≤ C * (256 * M) := Nat.le_mul_of_pos_left _ hc0
  refine FnOk.of_vc Try.func87 rfl (Try.call87 _) ?_
  (conv => whnf); refine vbuildS Try.underlying114 rfl (ndV root) node_z (ndL root) rfl ?_
  (conv => whnf); refine valloc (ndV root) (ndL root) node_z rfl ?_
  intro p1 H1 hp1 hs1 hb1 ha1
  have st1 := (St.nil H).box hp1 hs1 hb1 ha1
  (conv => whnf); refine stNB (cs := ndL root) st1 0 rfl rfl (show 0 + 3 ≤ 3 by decide) rfl fun H2 st2 => ?_
  rw [spliceN] at st2
  (conv => whnf); refine mmakeW (Ok := Nd.Ok) (enc := ndV) fun mb H3 hmb hs3 hm3 ha3 => ?_
  have st3 := st2.mapNewW hmb hs3 hm3 ha3
  have q3 := st3.blk 0 rfl
  (conv => whnf); refine ldN (cs := ndL root) ag114 (q3.cells fun j v hv => by rw [Nat.zero_add]; exact hv) trivial ?_
  (conv => whnf); refine mputPW (a := root) st3 1 mapB keyN root_ok rfl rfl fun H4 st4 => ?_
  have hm0 : ∀ a, slAt (put (fun _ => none) root (some (.slice none 0 0))) a = .slice none 0 0 := fun a => by
    by_cases h : a = root
    · subst h; rw [slAt_put]
    · rw [slAt_ne h]; rfl
  have hk0 : ∀ t, (put (fun _ => none) root (some (.slice none 0 0)) t : Option Value).isSome = true ↔ t ∈ [root] := fun t => by
    rw [List.mem_singleton]
    by_cases h : t = root
    · subst h; rw [put_self]; simp
    · rw [put_ne h]; simp [h]
  generalize put (fun _ => none) root (some (Value.slice none 0 0)) = m0 at *
  have st5 := st4.mqNil (T := tNd) (e := 114) 1 rfl hm0
  have q5 := st5.blk 0 rfl
  (conv => whnf); refine ldN (cs := ndL root) ag114 (q5.cells fun j v hv => by rw [Nat.zero_add]; exact hv) trivial ?_
  (conv => whnf); refine vbuild1 sl115 (ndL root) rfl rfl (by decide) (by decide) ?_
  intro b6 H6 hb6 hs6 hk6 ha6
  have st6 := (st5.new (T := tNd) (n := 1) (xs := [root]) hb6 hs6 hk6 ha6 (Ty.reps_one rfl) rfl (by decide)).pick [2, 1] (by decide)
  (conv => whnf)
  refine VLoop.mk [6, 7] (fun x : Nat × List Nd × Option Addr × Nat => match x with | (i, order, a, c) => [.slice a order.length c, .int .i64 (i : Int)])
    (fun x H7 => x.1 ≤ x.2.1.length ∧ ∃ m xs, RInv g by_ root x.2.1 (fun t p => p ∈ xs t) (fun n b t => n ∈ x.2.1.take x.1 ∧ b ∈ by_ ∧ t ∈ g.next n b) ∧ (∀ t, (m t).isSome = true ↔ t ∈ x.2.1) ∧ (∀ t, (xs t).length ≤ C * (x.1 * by_.length)) ∧
      St H H7 [pS tNd 114 x.2.2.1 x.2.1.length x.2.2.2 x.2.1, pMQ Nd.Ok ndV tNd 114 mb m xs]) (fun x _ => M - x.1) ?_ ?_
  · (conv => whnf)
    refine ⟨(0, [root], some ⟨b6, 0, none⟩, 1), rfl, by simp, m0, fun _ => [], ⟨rfl, by simp, fun n hn => ?_, fun t p hp => (by cases hp), fun n b t h => (by simp at h)⟩, hk0, by simp, st6⟩
    rw [List.mem_singleton] at hn; subst hn; exact .refl
  · rintro ⟨i, order, a7, c7⟩ H7 junk7 ⟨hi, m7, xs7, hinv, hm7, hxl, st7⟩
    simp only at hi hinv hm7 hxl st7
    have hcard := hg.card order hinv.nodup hinv.reach
    (conv => whnf); refine VIte.mk (fun hz => ?_) (fun hz => ?_) <;> simp only [decide_eq_true_eq, decide_eq_false_iff_not] at hz
    · obtain ⟨n, hn⟩ := get_some (l := order) (k := i) (by omega)
      have hnmem := List.mem_of_getElem? hn
      have hnr := hinv.reach n hnmem
      have q7 := hblk.agr (st7.old.mono hS) hpg
      (conv => whnf); refine fa fl112_0 ?_
      (conv => whnf); refine ld1 (v := .slice ba by_.length bc) ct107 (by rw [q7.cell]; rfl) trivial ?_
      (conv => whnf)
      refine VLoop.mk [6, 31] (fun x : Nat × List Nd × Option Addr × Nat => match x with | (k, order, a, c) => [.slice a order.length c, .int .i64 (k : Int)])
        (fun x H8 => x.1 ≤ by_.length ∧ x.2.1[i]? = some n ∧ ∃ m xs, RInv g by_ root x.2.1 (fun t p => p ∈ xs t) (fun n' b t => (n' ∈ x.2.1.take i ∧ b ∈ by_ ∧ t ∈ g.next n' b) ∨ (n' = n ∧ b ∈ by_.take x.1 ∧ t ∈ g.next n b)) ∧ (∀ t, (m t).isSome = true ↔ t ∈ x.2.1) ∧ (∀ t, (xs t).length ≤ C * (i * by_.length + x.1)) ∧
          St H H8 [pS tNd 114 x.2.2.1 x.2.1.length x.2.2.2 x.2.1, pMQ Nd.Ok ndV tNd 114 mb m xs]) (fun x _ => by_.length - x.1) ?_ ?_
      · (conv => whnf)
        exact ⟨(0, order, a7, c7), rfl, by simp, hn, m7, xs7, hinv.weak fun n' b t h => by simpa using h, hm7, by simpa using hxl, st7⟩
      · rintro ⟨k, order8, a8, c8⟩ H8 junk8 ⟨hk, hn8, m8, xs8, hinv8, hm8, hxl8, st8⟩
        simp only at hk hn8 hinv8 hm8 hxl8 st8
        have hcard8 := hg.card order8 hinv8.nodup hinv8.reach
        have hil8 := (List.getElem?_eq_some_iff.1 hn8).1
        (conv => whnf); refine VIte.mk (fun hz2 => ?_) (fun hz2 => ?_) <;> simp only [decide_eq_true_eq, decide_eq_false_iff_not] at hz2
        · obtain ⟨b, hb⟩ := get_some (l := by_) (k := k) (by omega)
          have hbmem := List.mem_of_getElem? hb
          have hb8 := hg.byl b hbmem
          have hP := row_le (i := i) (k := k) (M := M) (nb := by_.length) (by omega) (by omega) hnb
          have hCP : C * (i * by_.length + k + 1) ≤ C * (256 * M) := Nat.mul_le_mul_left _ hP
          rw [Nat.mul_succ] at hCP
          (conv => whnf); refine ixrn (i := k) (x := (b : Int)) sl107 (hby.frame (st8.old.mono hS)) (by simp) (by rw [List.getElem?_map, hb]; rfl) rfl ?_
          rintro b9 o9 cs9 hS9 hc9 ⟨rfl, -⟩
          (conv => whnf); refine ld1 ct5 hc9.one trivial ?_
          (conv => whnf); refine VDraw.held (Old H8) 99 (sq [0,1,2,3,4,5,6,7,8,11] (.f 9 (sq [10] .e))) rfl (by kernel_rfl) ?_
          have q8 := hblk.agr (st8.old.mono hS) hpg
          (conv => whnf); refine fa fl112_1 ?_
          (conv => whnf); refine ld1 (v := .func (.func f) fs.toArray cs.toArray) ct109 (by rw [q8.cell]; rfl) (st8.up (hS pg hpg)) ?_
          (conv => whnf); refine ixO (j := i) sl115 st8 0 rfl hn8 rfl fun b10 o10 cs10 hO10 hc10 hr10 => ?_
          obtain rfl := hr10
          (conv => whnf); refine ldN (cs := ndL n) ag114 hc10 hO10 ?_
          (conv => whnf); refine VCall.mk (hnext H8 (st8.old.mono hS) n b hnr hbmem) ?_
          rintro _ H9 ⟨ha9, hown9⟩
          refine ⟨ha9, ?_⟩
          obtain ⟨a9, c9, rfl, st9⟩ := st8.got ha9 hown9
          have hocc := fun t => hg.occ n b t hnr hbmem
          have hnx : ∀ t, t ∈ g.next n b → t.Ok := fun t ht => hg.ok t (hnr.step hbmem ht)
          generalize hls : g.next n b = ls at *
          (conv => whnf)
          refine VLoop.mk [6, 46] (fun x : Nat × List Nd × Option Addr × Nat => match x with | (j, order, a, c) => [.slice a order.length c, .int .i64 (j : Int)])
            (fun x H10 => x.1 ≤ ls.length ∧ x.2.1[i]? = some n ∧ ∃ m xs, RInv g by_ root x.2.1 (fun t p => p ∈ xs t) (fun n' b' t => ((n' ∈ x.2.1.take i ∧ b' ∈ by_ ∧ t ∈ g.next n' b') ∨ (n' = n ∧ b' ∈ by_.take k ∧ t ∈ g.next n b')) ∨ (n' = n ∧ b' = b ∧ t ∈ ls.take x.1)) ∧ (∀ t, (m t).isSome = true ↔ t ∈ x.2.1) ∧ (∀ t, (xs t).length ≤ C * (i * by_.length + k) + (ls.take x.1).count t) ∧
              St H H10 [pS tNd 114 x.2.2.1 x.2.1.length x.2.2.2 x.2.1, pMQ Nd.Ok ndV tNd 114 mb m xs, pS tNd 114 a9 ls.length c9 ls]) (fun x _ => ls.length - x.1) ?_ ?_
          · (conv => whnf)
            exact ⟨(0, order8, a8, c8), rfl, by simp, hn8, m8, xs8, hinv8.weak fun n' b t h => by simpa using h, hm8, by simpa using hxl8, st9⟩
          · rintro ⟨j, order10, a10, c10⟩ H10 junk10 ⟨hj, hn10, m10, xs10, hinv10, hm10, hxl10, st10⟩
            simp only at hj hn10 hinv10 hm10 hxl10 st10
            have hcard10 := hg.card order10 hinv10.nodup hinv10.reach
            have hil10 := (List.getElem?_eq_some_iff.1 hn10).1
            (conv => whnf); refine VIte.mk (fun hz3 => ?_) (fun hz3 => ?_) <;> simp only [decide_eq_true_eq, decide_eq_false_iff_not] at hz3
            · obtain ⟨t, ht⟩ := get_some (l := ls) (k := j) (by omega)
              have htmem := List.mem_of_getElem? ht
              have hmax := st10.max 2 rfl
              unfold maxLen at hmax
              have hcs := count_succ ht
              have hoc := hocc t
              (conv => whnf); refine ixO (j := j) sl115 st10 2 rfl ht rfl fun b11 o11 cs11 hO11 hc11 hr11 => ?_
              obtain rfl := hr11
              (conv => whnf); refine ldN (cs := ndL t) ag114 hc11 trivial ?_
              (conv => whnf); refine valloc (ndV root) (ndL root) node_z rfl ?_
              intro p12 H12 hp12 hs12 hb12 ha12
              have st12 := st10.box hp12 hs12 hb12 ha12
              (conv => whnf); refine stNB (cs := ndL t) st12 3 rfl rfl (show 0 + 3 ≤ 3 by decide) rfl fun H13 st13 => ?_
              rw [spliceN] at st13
              have q13 := st13.blk 3 rfl
              (conv => whnf)
              refine VSeq.cut [6] (fun x : List Nd × Option Addr × Nat => match x with | (order, a, c) => [.slice a order.length c])
                (fun x H14 => ((t ∈ order10 ∧ x.1 = order10) ∨ (t ∉ order10 ∧ x.1 = order10 ++ [t])) ∧ St H H14 [pS tNd 114 x.2.1 x.1.length x.2.2 x.1, pMQ Nd.Ok ndV tNd 114 mb m10 xs10, pS tNd 114 a9 ls.length c9 ls, pB 114 p12 (ndL t)]) ?_ ?_
              · (conv => whnf); refine ldN (cs := ndL t) ag114 (q13.cells fun j v hv => by rw [Nat.zero_add]; exact hv) trivial ?_
                (conv => whnf); refine mlookOkW (S := fun _ => True) (a := t) mapB keyN (hnx t htmem) (st13.mqMap 1 rfl) trivial ?_
                by_cases hin : t ∈ order10
                · rw [(hm10 t).2 hin]
                  (conv => whnf)
                  exact ⟨rfl, (order10, a10, c10), rfl, .inl ⟨hin, rfl⟩, st13⟩
                · have hno : (m10 t).isSome = false := by
                    cases h : (m10 t).isSome with
                    | false => rfl
                    | true => exact absurd ((hm10 t).1 h) hin
                  rw [hno]
                  (conv => whnf); refine ldN (cs := ndL t) ag114 (q13.cells fun j v hv => by rw [Nat.zero_add]; exact hv) trivial ?_
                  (conv => whnf); refine vbuild1 sl115 (ndL t) rfl rfl (by decide) (by decide) ?_
                  intro q14 H14 hq14 hs14 hb14 ha14
                  have st14 := st13.skip hq14 ha14
                  (conv => whnf); refine appG (ys := [t]) (ds := ndL t) st14 0 sl115 rfl (hb14.cells fun j v hv => by rw [Nat.zero_add]; exact hv) (Ty.reps_one rfl) rfl (by simp [ndL, Value.oneCell']) (by simp only [List.length_singleton, maxLen]; omega) (by simp only [List.length_singleton]; omega) fun a' c' H15 st15 _ => ?_
                  (conv => whnf)
                  refine ⟨rfl, (order10 ++ [t], a', c'), by simp, .inr ⟨hin, rfl⟩, ?_⟩
                  simp only [List.length_append, List.length_singleton] at st15 ⊢
                  exact st15
              · rintro ⟨order14, a14, c14⟩ H14 junk14 ⟨hor, st14⟩
                simp only at hor st14
                have hn14 : order14[i]? = some n := by
                  rcases hor with ⟨-, rfl⟩ | ⟨-, rfl⟩
                  · exact hn10
                  · rw [List.getElem?_append_left hil10]; exact hn10
                have htake : order14.take i = order10.take i := by
                  rcases hor with ⟨-, rfl⟩ | ⟨-, rfl⟩
                  · rfl
                  · rw [List.take_append_of_le_length (by omega)]
                have hin14 : ∀ x, x ∈ order14 ↔ x ∈ order10 ∨ x = t := fun x => by
                  rcases hor with ⟨h, rfl⟩ | ⟨-, rfl⟩
                  · exact ⟨.inl, fun hx => hx.elim id fun e => e ▸ h⟩
                  · simp
                (conv => whnf); refine VDraw.held (fun k => k < H14.size ∧ ¬ (pMQ Nd.Ok ndV tNd 114 mb m10 xs10).foot k) 11 (sq [0,1,2,3,4,5] (.f 6 (.f 7 (sq [8,10] (.f 9 (.f 11 .e)))))) rfl (by kernel_rfl) ?_
                have q14 := st14.blk 3 rfl
                have d01 := st14.apart (i := 0) (j := 1) (by decide) rfl rfl
                have d13 := st14.apart (i := 1) (j := 3) (by decide) rfl rfl
                have hmb14 := (st14.in_ 1 rfl (.inl rfl)).2
                (conv => whnf); refine ldN (cs := ndL t) ag114 (q14.cells fun j v hv => by rw [Nat.zero_add]; exact hv) ⟨q14.lt, fun hf => d13 _ hf rfl⟩ ?_
                (conv => whnf); refine ixOa (j := i) sl115 st14 0 rfl hn14 rfl fun b15 o15 cs15 hsb15 hO15 hc15 hr15 => ?_
                obtain rfl := hr15
                (conv => whnf); refine ldN (cs := ndL n) ag114 hc15 ⟨hO15, d01 _ (.inl hsb15)⟩ ?_
                (conv => whnf); refine vbuild1 sl115 (ndL n) rfl rfl (by decide) (by decide) ?_
                intro q16 H16 hq16 hs16 hb16 ha16
                have st16 := st14.skip hq16 ha16
                refine ⟨ha16.mono fun k hk => by have := hk.1; omega, ?_⟩
                (conv => whnf); refine mentryQ (a := t) st16 1 mapB keyN (hnx t htmem) rfl fun s m17 H17 hst17 ha17 hm17 st17 => ?_
                refine ⟨(ha16.mono fun k hk => by have := hk.1; omega).trans (ha17.mono fun k hk hkb => hk.2 (.inl hkb)), ?_⟩
                have hxlen := hxl10 t
                (conv => whnf); refine appQm (ys := [n]) (ds := ndL n) st17 1 sl115 rfl ((hb16.agr ha17 (by show q16 ≠ mb; omega)).cells fun j v hv => by rw [Nat.zero_add]; exact hv) (Ty.reps_one rfl) rfl (by simp [ndL, Value.oneCell']) (by simp only [List.length_singleton, maxLen]; omega) (by simp only [List.length_singleton]; omega) fun v18 H18 st18 ha18 hmb18 => ?_
                refine ⟨((ha16.mono fun k hk => by have := hk.1; omega).trans (ha17.mono fun k hk hkb => hk.2 (.inl hkb))).trans (ha18.mono fun k hk => ⟨?_, fun hs => hk.2 (.inr ⟨t, hs⟩)⟩), ?_⟩
                · have := hk.1
                  have e16 := old_size (H := H14) (H' := H16) (ha16.mono fun k hk => by unfold Old at hk; omega)
                  exact agr_lt ha17 (fun hkb => hk.2 (.inl hkb)) (by omega)
                have hst18 := hst17.agr ha18 ⟨st17.in_ 1 rfl (.inl rfl) |>.2, hmb18⟩
                (conv => whnf); refine mstoreQ st18 1 keyN (hnx t htmem) rfl hst18 fun m19 H19 hm19 st19 => ?_
                (conv => whnf); rw [w64 (x := (j : Int) + 1) (by omega) (by omega)]
                have hsee := hinv10.see (bk' := fun x p => p ∈ upd xs10 t (xs10 t ++ [n]) x) (List.mem_of_getElem? hn10) hbmem (by rw [hls]; exact htmem) (fun x p => by
                  by_cases hx : x = t
                  · subst hx; rw [upd_self]; simp
                  · rw [upd_ne hx]; simp [hx]) order14 hor
                refine ⟨rfl, (j + 1, order14, a14, c14), by simp, ⟨by simp only; omega, hn14, m19, upd xs10 t (xs10 t ++ [n]), hsee.weak fun n' b' x h => ?_, fun x => ?_, fun x => ?_, st19.pick [0, 1, 2] (by decide)⟩, by simp only; omega⟩
                · simp only at h
                  rw [htake, take_succ_snoc ht, List.mem_append, List.mem_singleton] at h
                  rcases h with h | ⟨h1, h2, h3 | h3⟩
                  · exact .inl (.inl h)
                  · exact .inl (.inr ⟨h1, h2, h3⟩)
                  · exact .inr ⟨h1, h2, h3⟩
                · rw [hm19, hm17, hm10, hin14]
                · simp only
                  rw [take_succ_snoc ht, List.count_append]
                  have := hxl10 x
                  by_cases hx : x = t
                  · subst hx
                    rw [upd_self, List.length_append, List.count_singleton_self, List.length_singleton]; omega
                  · rw [upd_ne hx]; omega
            · obtain rfl : j = ls.length := by omega
              rw [List.take_length] at hinv10 hxl10
              (conv => whnf); rw [w64 (x := (k : Int) + 1) (by omega) (by omega)]
              refine ⟨rfl, (k + 1, order10, a10, c10), by simp, ⟨by simp only; omega, hn10, m10, xs10, hinv10.weak fun n' b' t h => ?_, hm10, fun t => ?_, st10.pick [0, 1] (by decide)⟩, by simp only; omega⟩
              · rcases h with h | ⟨rfl, h1, h2⟩
                · exact .inl (.inl h)
                · rw [take_succ_snoc hb, List.mem_append, List.mem_singleton] at h1
                  rcases h1 with h1 | rfl
                  · exact .inl (.inr ⟨rfl, h1, h2⟩)
                  · exact .inr ⟨rfl, rfl, hls ▸ h2⟩
              · have := hxl10 t
                have := hocc t
                rw [← Nat.add_assoc, Nat.mul_succ]
                omega
        · obtain rfl : k = by_.length := by omega
          rw [List.take_length] at hinv8
          (conv => whnf); rw [w64 (x := (i : Int) + 1) (by omega) (by omega)]
          refine ⟨rfl, (i + 1, order8, a8, c8), by simp, ⟨by simp only; omega, m8, xs8, hinv8.weak fun n' b' t h => ?_, hm8, fun t => ?_, st8⟩, by simp only; omega⟩
          · obtain ⟨h1, h2, h3⟩ := h
            rw [take_succ_snoc hn8, List.mem_append, List.mem_singleton] at h1
            rcases h1 with h1 | rfl
            · exact .inl ⟨h1, h2, h3⟩
            · exact .inr ⟨rfl, h2, h3⟩
          · rw [Nat.succ_mul]; exact hxl8 t
    · obtain rfl : i = order.length := by omega
      rw [List.take_length] at hinv
      obtain ⟨r1, r2⟩ := hinv.all fun n b t h1 h2 h3 => ⟨h1, h2, h3⟩
      (conv => whnf)
      exact ⟨a7, c7, order, mb, m7, xs7, rfl, st7, hinv.nodup, r1, r2⟩
end Go.Proofs.Ytpnnedkpbmilkaa

/- ambig's first, once the distances are known: byte by byte; plain law. -/
set_option linter.unusedVariables false
set_option linter.unusedSimpArgs false
namespace Go.VC
theorem vstrOut {P : Program} {s d e cap n : Nat} {a : Option Addr} {S B : Nat → Prop} {H0 H : Heap} {ps : List Pc} {K : Value → Heap → Prop} (bs : List Nat) (st : StB B H0 H ps) (i : Nat) (hp : ps[i]? = some (pN (tInt .u8) S e a n cap (bs.map fun (x : Nat) => (x : Int))))
    (hs : P.underlying s = some (.slice e)) (he : P.underlying e = some (.int .u8)) (hd : P.underlying d = some .string) (k : K (.string ⟨(bs.map UInt8.ofNat).toArray⟩) H) : VEff P (convert s d (.slice a n cap)) H K := by
  have h := st.view i hp
  have hn := st.len i hp
  rw [List.length_map] at hn
  cases bs with
  | nil =>
    cases a with
    | none => exact vb2s0 hs he hd k
    | some ad =>
      have h' := st.at_ i hp
      obtain ⟨cs, ⟨h0, h2⟩, h3⟩ := h'.1
      rcases h2 with ⟨h2, -⟩ | ⟨b, c, l, h2, h4, h5, h6, h7, h8, h9⟩
      · cases h2
      · injection h2 with g1 g2 g3
        injection g1 with g1
        subst g1
        exact vb2s [] hs he hd (fun j x hx => by simp at hx) hn k
  | cons x xs =>
    obtain ⟨b, rfl⟩ := st.adr i hp (by simp)
    refine vb2s (x :: xs) hs he hd (fun j y hy => ?_) hn k
    obtain ⟨b', o', c', e, -, hc, hr⟩ := h.get (i := j) (x := (y : Int)) (by rw [List.getElem?_map, hy]; rfl)
    injection e with e
    injection e with e1 e2 e3
    subst e1; subst e2
    obtain ⟨rfl, -⟩ := hr
    have := hc.one
    rw [show (tInt .u8).size = 1 from rfl, Nat.mul_one] at this
    exact this
end Go.VC
namespace Go.Proofs.Ytpnnedkpbmilkaa
open Go.VC
/-- What is left of the word that is asked for: r bytes, from one of P on. -/
structure Pre (g : Gr) (a : Nd) (lf : Nd → Option Nat) (L r : Nat) (w : List Nat) (P : Nd → Prop) : Prop where
  len : w.length + r = L
  fst : ∀ v, FirstOf g P r v → FirstOf g (· = a) L (w ++ v)
  all : ∀ n, P n → lf n = some r
  ne : ∃ n, P n
section
variable {g : Gr} {by_ : List Nat} {a : Nd} {lf : Nd → Option Nat} {L k b : Nat} {w : List Nat} {P Q : Nd → Prop}
theorem Pre.start (h : lf a = some L) : Pre g a lf L L [] (· = a) := ⟨by simp, fun v hv => hv, fun n hn => by rw [hn, h], a, rfl⟩
theorem Pre.done (h : Pre g a lf L 0 w P) (hd : DistOk g by_ a lf) : FirstOf g (· = a) L w := by
  obtain ⟨n, hn⟩ := h.ne
  obtain ⟨-, u, hu, -, hl⟩ := hd.word n 0 (h.all n hn)
  obtain rfl := List.eq_nil_of_length_eq_zero hu
  have := h.fst [] (FirstOf.nil hn hl)
  rwa [List.append_nil] at this
theorem Pre.some (h : Pre g a lf L (k + 1) w P) (hd : DistOk g by_ a lf) : ∃ b, b ∈ by_ ∧ ∃ t, stepP g P b t ∧ lf t = some k := by
  obtain ⟨n, hn⟩ := h.ne
  have hln := h.all n hn
  obtain ⟨hr, u, hu, hub, hl⟩ := hd.word n _ hln
  cases u with
  | nil => simp at hu
  | cons b u =>
    obtain ⟨t, ht, hl⟩ := hl
    have hb := hub b List.mem_cons_self
    obtain ⟨j, hj, hlt⟩ := hd.le (hr.step hb ht) (fun c hc => hub c (List.mem_cons_of_mem _ hc)) hl
    obtain ⟨i, hi, hli⟩ := hd.pred t j hlt n b hr hb ht
    rw [hln] at hli
    injection hli with hli
    simp only [List.length_cons, Nat.add_right_cancel_iff] at hu
    have : j = k := by omega
    exact ⟨b, hb, t, ⟨n, hn, ht⟩, this ▸ hlt⟩
variable (hby : ∀ c, c < 256 → ∃ r ∈ by_, r ≤ c ∧ ∀ n, g.next n r = g.next n c)
include hby
theorem DistOk.narrow (h : DistOk g by_ a lf) (hP : ∀ n, P n → lf n = Option.some (k + 1)) (hb : b ∈ by_) (hQ : ∀ t, Q t ↔ stepP g P b t ∧ lf t = Option.some k) {v : List Nat} (hv : FirstOf g Q k v) : FirstOf g (stepP g P b) k v := by
  obtain ⟨h1, h2, ⟨n, hn, hl⟩, h4⟩ := hv
  refine ⟨h1, h2, ⟨n, ((hQ n).1 hn).1, hl⟩, fun u hu hub hul => ?_⟩
  obtain ⟨t, ht, hl⟩ := hul
  refine h4 u hu hub ⟨t, (hQ t).2 ⟨ht, ?_⟩, hl⟩
  obtain ⟨m, hm, htm⟩ := ht
  have hmr := (h.word m _ (hP m hm)).1
  obtain ⟨j, hj, hlt⟩ := h.bytes hby (hmr.step hb htm) hub hl
  obtain ⟨i, hi, hli⟩ := h.pred t j hlt m b hmr hb htm
  rw [hP m hm] at hli
  injection hli with hli
  have : j = k := by omega
  exact this ▸ hlt
theorem Pre.step (h : Pre g a lf L (k + 1) w P) (hd : DistOk g by_ a lf) (hby2 : ∀ b ∈ by_, b < 256) (hs : by_.Pairwise (· ≤ ·)) {j : Nat} (hj : by_[j]? = Option.some b) (hQ : ∀ t, Q t ↔ stepP g P b t ∧ lf t = Option.some k) (hne : ∃ t, Q t)
    (hno : ∀ c ∈ by_.take j, ∀ t, ¬ (stepP g P c t ∧ lf t = Option.some k)) : Pre g a lf L k (w ++ [b]) Q := by
  have hb := List.mem_of_getElem? hj
  refine ⟨by rw [List.length_append, List.length_singleton]; have := h.len; omega, fun v hv => ?_, fun n hn => ((hQ n).1 hn).2, hne⟩
  have h1 := FirstOf.cons (hby2 b hb) (hd.narrow hby h.all hb hQ hv) fun c hc u hu hub hul => by
    obtain ⟨r, hr, hrc, hs2⟩ := hby c (by have := hby2 b hb; omega)
    have e : stepP g P c = stepP g P r := by
      funext t
      unfold stepP
      simp only [hs2]
    rw [e] at hul
    obtain ⟨t, h3, h4⟩ := (hd.fwd hby hby2 h.all hr).1 ⟨u, hu, hub, hul⟩
    refine hno r ?_ t ⟨h3, h4⟩
    obtain ⟨i, hi⟩ := List.getElem?_of_mem hr
    obtain ⟨p1, p2⟩ := List.getElem?_eq_some_iff.1 hi
    obtain ⟨q1, q2⟩ := List.getElem?_eq_some_iff.1 hj
    by_cases hij : i < j
    · exact List.mem_of_getElem? (i := i) (by rw [List.getElem?_take, if_pos hij]; exact hi)
    · exfalso
      rcases Nat.lt_or_eq_of_le (Nat.not_lt.1 hij) with h | h
      · have := List.pairwise_iff_getElem.1 hs j i q1 p1 h
        rw [p2, q2] at this
        omega
      · subst h
        rw [hi] at hj
        injection hj with hj
        omega
  have := h.fst _ h1
  rwa [List.append_cons] at this
end
/-- The distances as they lie in the map. -/
def encL (lf : Nd → Option Nat) : Nd → Option Value := fun n => (lf n).map fun (k : Nat) => Value.int .i64 (k : Int)
theorem encL_put (lf : Nd → Option Nat) (p : Nd) (k : Nat) : put (encL lf) p (some (.int .i64 (k : Int))) = encL fun m => if m = p then some k else lf m := by
  funext m
  by_cases h : m = p
  · subst h; rw [put_self]; simp [encL]
  · rw [put_ne h]; simp [encL, h]
theorem encL_put0 (todo : List Nd) (p : Nd) : put (encL fun n => if n ∈ todo then some 0 else none) p (some (.int .i64 0)) = encL fun n => if n ∈ todo ++ [p] then some 0 else none := by
  have := encL_put (fun n => if n ∈ todo then some 0 else none) p 0
  refine Eq.trans this ?_
  congr 1
  funext m
  by_cases h : m = p
  · subst h; simp
  · simp [h]
/-- A set of nodes as it lies in the map. -/
def enc1 (q : Nd → Bool) : Nd → Option Value := fun n => if q n then some (.int .i64 1) else none
theorem enc1_put (q : Nd → Bool) (p : Nd) : put (enc1 q) p (some (.int .i64 1)) = enc1 fun m => decide (m = p) || q m := by
  funext m
  by_cases h : m = p
  · subst h; rw [put_self]; unfold enc1; simp
  · rw [put_ne h]; unfold enc1; simp [h]
theorem enc1_some {q : Nd → Bool} {n : Nd} : (enc1 q n).isSome = true ↔ q n = true := by
  unfold enc1
  cases h : q n <;> simp
theorem enc1_none {q : Nd → Bool} {n : Nd} : enc1 q n = none ↔ q n = false := by
  unfold enc1
  cases h : q n <;> simp
def bA (w : List Nat) : ByteArray := ⟨(w.map UInt8.ofNat).toArray⟩
end Go.Proofs.Ytpnnedkpbmilkaa

/- ambig's first: the walk. -/
set_option linter.unusedVariables false
set_option linter.unusedSimpArgs false
set_option maxRecDepth 100000
namespace Go.Proofs.Ytpnnedkpbmilkaa
open Go.VC
/-- What first answers. -/
def FirstR (g : Gr) (w : List Nat) (ok : Bool) : Prop := (ok = true → FirstW g (· = root) w) ∧ (ok = false → w = [] ∧ ∀ u, bytes_ u → ¬ LeadsP g (· = root) u)
/-- The nodes whose distance is known. -/
structure Seen (g : Gr) (by_ : List Nat) (lf : Nd → Option Nat) (seen : List Nd) : Prop where
  nd : seen.Nodup
  mem : ∀ n, (lf n).isSome = true ↔ n ∈ seen
  le : ∀ n j, lf n = some j → j ≤ seen.length
  rch : ∀ n ∈ seen, Reach g by_ root n
theorem Seen.push {g : Gr} {by_ : List Nat} {lf : Nd → Option Nat} {seen : List Nd} {p n : Nd} {k : Nat} (h : Seen g by_ lf seen) (hp : lf p = none) (hr : Reach g by_ root p) (hn : lf n = some k) : Seen g by_ (fun m => if m = p then some (k + 1) else lf m) (seen ++ [p]) := by
  have hps : p ∉ seen := fun h2 => by
    have := (h.mem p).2 h2
    rw [hp] at this; cases this
  refine ⟨List.nodup_append.2 ⟨h.nd, by simp, fun x hx y hy => ?_⟩, fun m => ?_, fun m j hj => ?_, fun m hm => ?_⟩
  · rw [List.mem_singleton] at hy
    subst hy
    exact fun e => hps (e ▸ hx)
  · by_cases hm : m = p
    · subst hm; simp
    · rw [if_neg hm, h.mem]; simp [hm]
  · rw [List.length_append, List.length_singleton]
    split at hj
    · have := h.le n k hn
      injection hj with hj
      omega
    · have := h.le m j hj
      omega
  · rcases List.mem_append.1 hm with hm | hm
    · exact h.rch m hm
    · rw [List.mem_singleton] at hm; subst hm; exact hr

set_option maxHeartbeats 16000000 in
theorem first_c {S : Nat → Prop} {H : Heap} {v : Value} {g : Gr} {by_ : List Nat} {M C : Nat} (hS : ∀ k, S k → k < H.size) (hg : GraphOk g by_ M C) (hcov : ∀ c, c < 256 → ∃ r ∈ by_, r ≤ c ∧ ∀ n, g.next n r = g.next n c) (hsort : by_.Pairwise (· ≤ ·)) (hv : GraphV S H v g by_) :
    FnOk Try.prog 70 #[v] H fun v H' => Agr (Old H) H H' ∧ ∃ w ok, v = .tuple #[.string (bA w), .bool ok] ∧ FirstR g w ok ∧ w.length ≤ M := by
  have hnb := hg.nb
  have hbig := hg.big
  have hMC : 256 * M ≤ C * (256 * M) := Nat.le_mul_of_pos_left _ hg.c0
  have hreach := reach_c hS hg hv
  obtain ⟨pg, ba, bc, f, e, fs, cs, es, ds, rfl, hpg, hblk, hby, hnext, hends⟩ := hv
  refine FnOk.of_vc Try.func70 rfl (Try.call70 _) ?_
  (conv => whnf); refine VCall.mk hreach ?_
  rintro _ H1 ⟨a1, c1, order, mb, m1, xs, rfl, st1, hnd, hor, hxs⟩
  have hcard := hg.card order hnd fun n hn => (hor n).1 hn
  (conv => whnf); refine mmakeW (Ok := Nd.Ok) (enc := ndV) fun lb H2 hlb hs2 hm2 ha2 => ?_
  have st2 := st1.mapNewW hlb hs2 hm2 ha2
  have st3 := st2.nils tNd 114
  (conv => whnf)
  refine VLoop.mk [7, 36] (fun x : Nat × List Nd × Option Addr × Nat => match x with | (i, todo, a, c) => [.slice a todo.length c, .int .i64 (i : Int)])
    (fun x H3 => x.1 ≤ order.length ∧ x.2.1 = (order.take x.1).filter g.ends ∧ St H H3 [pS tNd 114 a1 order.length c1 order, pMQ Nd.Ok ndV tNd 114 mb m1 xs, pMW Nd.Ok ndV lb (encL fun n => if n ∈ x.2.1 then some 0 else none), pS tNd 114 x.2.2.1 x.2.1.length x.2.2.2 x.2.1]) (fun x _ => order.length - x.1) ?_ ?_
  · (conv => whnf)
    refine ⟨(0, [], none, 0), rfl, by simp, rfl, ?_⟩
    have e0 : (encL fun n => if n ∈ ([] : List Nd) then some 0 else none) = fun _ => none := by funext n; simp [encL]
    simp only [e0]
    exact st3
  · rintro ⟨i, todo, a4, c4⟩ H4 junk4 ⟨hi, htodo, st4⟩
    simp only at hi htodo st4
    (conv => whnf); refine VIte.mk (fun hz => ?_) (fun hz => ?_) <;> simp only [decide_eq_true_eq, decide_eq_false_iff_not] at hz
    · obtain ⟨n, hn⟩ := get_some (l := order) (k := i) (by omega)
      have hnmem := List.mem_of_getElem? hn
      have hnr := (hor n).1 hnmem
      have hnext2 : (order.take (i + 1)).filter g.ends = todo ++ [n].filter g.ends := by
        rw [htodo, take_succ_snoc hn, List.filter_append]
      have hlen4 : todo.length ≤ i := by
        rw [htodo]
        refine Nat.le_trans (List.length_filter_le _ _) ?_
        rw [List.length_take]; omega
      (conv => whnf); refine VSeq.run ?_
      (conv => whnf); refine ixO (j := i) sl115 st4 0 rfl hn rfl fun b5 o5 cs5 hO5 hc5 hr5 => ?_
      obtain rfl := hr5
      (conv => whnf); refine ldN (cs := ndL n) ag114 hc5 trivial ?_
      (conv => whnf); refine valloc (ndV root) (ndL root) node_z rfl ?_
      intro p5 H5 hp5 hs5 hb5 ha5
      have st5 := st4.box hp5 hs5 hb5 ha5
      (conv => whnf); refine stNB (cs := ndL n) st5 4 rfl rfl (show 0 + 3 ≤ 3 by decide) rfl fun H6 st6 => ?_
      rw [spliceN] at st6
      (conv => whnf); refine VDraw.held (Old H6) 99 (sq [0,1,2,3,4] (.f 5 .e)) rfl (by kernel_rfl) ?_
      have q6 := hblk.agr (st6.old.mono hS) hpg
      have r6 := st6.blk 4 rfl
      (conv => whnf); refine fa fl112_2 ?_
      (conv => whnf); refine ld1 (v := .func (.func e) es.toArray ds.toArray) ct110 (by rw [q6.cell]; rfl) (st6.up (hS pg hpg)) ?_
      (conv => whnf); refine ldN (cs := ndL n) ag114 (r6.cells fun j v hv => by rw [Nat.zero_add]; exact hv) r6.lt ?_
      (conv => whnf); refine pures (hends H6 (st6.old.mono hS) n hnr) fun H7 ha7 => ?_
      refine ⟨ha7, ?_⟩
      have st7 := st6.call ha7
      have r7 := st7.blk 4 rfl
      cases he : g.ends n with
      | false =>
        have hf : [n].filter g.ends = [] := List.filter_cons_of_neg (by rw [he]; decide)
        rw [hf, List.append_nil] at hnext2
        (conv => whnf); rw [w64 (x := (i : Int) + 1) (by omega) (by omega)]
        exact ⟨rfl, (i + 1, todo, a4, c4), by simp, ⟨by simp only; omega, hnext2.symm, st7.pick [0, 1, 2, 3] (by decide)⟩, by simp only; omega⟩
      | true =>
        have hf : [n].filter g.ends = [n] := List.filter_cons_of_pos he
        rw [hf] at hnext2
        (conv => whnf); refine ldN (cs := ndL n) ag114 (r7.cells fun j v hv => by rw [Nat.zero_add]; exact hv) trivial ?_
        (conv => whnf); refine mputPW (a := n) st7 2 mapL keyN (hg.ok n hnr) rfl (encL_put0 todo n) fun H8 st8 => ?_
        have r8 := st8.blk 4 rfl
        (conv => whnf); refine ldN (cs := ndL n) ag114 (r8.cells fun j v hv => by rw [Nat.zero_add]; exact hv) trivial ?_
        (conv => whnf); refine vbuild1 sl115 (ndL n) rfl rfl (by decide) (by decide) ?_
        intro q9 H9 hq9 hs9 hb9 ha9
        have st9 := st8.skip hq9 ha9
        (conv => whnf); refine appG (ys := [n]) (ds := ndL n) st9 3 sl115 rfl (hb9.cells fun j v hv => by rw [Nat.zero_add]; exact hv) (Ty.reps_one rfl) rfl (by simp [ndL, Value.oneCell']) (by simp only [List.length_singleton, maxLen]; omega) (by simp only [List.length_singleton]; omega) fun a' c' H10 st10 _ => ?_
        (conv => whnf); rw [w64 (x := (i : Int) + 1) (by omega) (by omega)]
        refine ⟨rfl, (i + 1, todo ++ [n], a', c'), by simp, ⟨by simp only; omega, hnext2.symm, ?_⟩, by simp only; omega⟩
        simp only [List.length_append, List.length_singleton]
        exact st10.pick [0, 1, 2, 3] (by decide)
    · obtain rfl : i = order.length := by omega
      rw [List.take_length] at htodo
      have hB := BInv.start (g := g) (by_ := by_) (a := root) (todo := todo) (left := fun n => if n ∈ todo then some 0 else none) (fun n => rfl) (fun n => by rw [htodo, List.mem_filter, hor])
      have hseen : Seen g by_ (fun n => if n ∈ todo then some 0 else none) todo := by
        refine ⟨by rw [htodo]; exact hnd.filter _, fun n => by by_cases h : n ∈ todo <;> simp [h], fun n j hj => ?_, fun n hn => ?_⟩
        · split at hj
          · injection hj with hj; omega
          · cases hj
        · rw [htodo, List.mem_filter] at hn
          exact (hor n).1 hn.1
      generalize (fun n => if n ∈ todo then some 0 else none : Nd → Option Nat) = lf0 at *
      have st5 := st4.toQ 3 rfl
      clear htodo
      (conv => whnf)
      refine VLoop.mk [7] (fun x : List Nd × Option Addr × Nat × List Nd => match x with | (todo, a, c, seen) => [.slice a todo.length c])
        (fun x H5 => ∃ lf k, BInv g by_ root lf x.1 k ∧ Seen g by_ lf x.2.2.2 ∧ x.1.length ≤ x.2.2.2.length ∧ St H H5 [pS tNd 114 a1 order.length c1 order, pMQ Nd.Ok ndV tNd 114 mb m1 xs, pMW Nd.Ok ndV lb (encL lf), pQ tNd 114 x.2.1 x.1.length x.2.2.1 x.1]) (fun x _ => 2 * (M - x.2.2.2.length) + x.1.length) ?_ ?_
      · (conv => whnf)
        exact ⟨(todo, a4, c4, todo), rfl, lf0, 0, hB, hseen, Nat.le_refl _, st5⟩
      · rintro ⟨todo, a6, c6, seen⟩ H6 junk6 ⟨lf, k0, hB, hseen, hts, st6⟩
        simp only at hB hseen hts st6
        have hM6 := hg.card seen hseen.nd hseen.rch
        (conv => whnf); refine VIte.mk (fun hz2 => ?_) (fun hz2 => ?_) <;> simp only [decide_eq_true_eq, decide_eq_false_iff_not] at hz2
        · cases todo with
          | nil => simp at hz2
          | cons n todo =>
          obtain ⟨k, hlk, hmid⟩ := hB.take
          have hnr := (hB.word n k hlk).1
          have hnok := hg.ok n hnr
          obtain ⟨-, hqv⟩ := st6.qview 3 rfl
          (conv => whnf); refine ixr (i := 0) (x := n) sl115 hqv rfl rfl ?_
          rintro b7 o7 cs7 hS7 hc7 rfl
          (conv => whnf); refine ldN (cs := ndL n) ag114 hc7 trivial ?_
          (conv => whnf); refine valloc (ndV root) (ndL root) node_z rfl ?_
          intro p7 H7 hp7 hs7 hb7 ha7
          have st7 := st6.box hp7 hs7 hb7 ha7
          (conv => whnf); refine stNB (cs := ndL n) st7 4 rfl rfl (show 0 + 3 ≤ 3 by decide) rfl fun H8 st8 => ?_
          rw [spliceN] at st8
          (conv => whnf); refine cutQ st8 3 sl115 rfl fun a9 c9 st9 => ?_
          have r9 := st9.blk 4 rfl
          obtain ⟨ad, cap, hsl, -⟩ := st9.mqView 1 rfl n
          (conv => whnf); refine ldN (cs := ndL n) ag114 (r9.cells fun j v hv => by rw [Nat.zero_add]; exact hv) trivial ?_
          (conv => whnf); refine mlookW (S := fun _ => True) (a := n) mapB keyN hnok (st9.mqMap 1 rfl) trivial ?_
          have hsl2 : (m1 n).getD (.slice none 0 0) = .slice ad (xs n).length cap := hsl
          rw [hsl2]
          simp only [List.length_cons] at hts
          (conv => whnf)
          refine VLoop.mk [7, 65] (fun x : Nat × List Nd × Option Addr × Nat × List Nd => match x with | (j, todo, a, c, seen) => [.slice a todo.length c, .int .i64 (j : Int)])
            (fun x H10 => x.1 ≤ (xs n).length ∧ ∃ lf, BMid g by_ root lf x.2.1 n k (fun p => p ∈ (xs n).take x.1) ∧ Seen g by_ lf x.2.2.2.2 ∧ x.2.1.length + 1 ≤ x.2.2.2.2.length ∧ 2 * (M - x.2.2.2.2.length) + x.2.1.length ≤ 2 * (M - seen.length) + todo.length ∧
              St H H10 [pS tNd 114 a1 order.length c1 order, pMQ Nd.Ok ndV tNd 114 mb m1 xs, pMW Nd.Ok ndV lb (encL lf), pQ tNd 114 x.2.2.1 x.2.1.length x.2.2.2.1 x.2.1, pB 114 p7 (ndL n)]) (fun x _ => (xs n).length - x.1) ?_ ?_
          · (conv => whnf)
            exact ⟨(0, todo, a9, c9, seen), rfl, by simp, lf, by simpa using hmid, hseen, hts, Nat.le_refl _, st9⟩
          · rintro ⟨j, todo10, a10, c10, seen10⟩ H10 junk10 ⟨hj, lf10, hmid10, hseen10, hts10, hme10, st10⟩
            simp only at hj hmid10 hseen10 hts10 hme10 st10
            have hM10 := hg.card seen10 hseen10.nd hseen10.rch
            obtain ⟨ad', cap', hsl', hsd'⟩ := st10.mqView 1 rfl n
            rw [hsl] at hsl'
            injection hsl' with g1 g2 g3
            subst g1; subst g3
            have hmax := ((st10.at_ 1 rfl).2.1 n).len
            unfold maxLen at hmax
            (conv => whnf); refine VIte.mk (fun hz3 => ?_) (fun hz3 => ?_) <;> simp only [decide_eq_true_eq, decide_eq_false_iff_not] at hz3
            · obtain ⟨p, hp⟩ := get_some (l := xs n) (k := j) (by omega)
              obtain ⟨hpr, b, hb, hnp⟩ := (hxs n p).1 (List.mem_of_getElem? hp)
              have hpok := hg.ok p hpr
              have htk : ∀ x, x ∈ (xs n).take (j + 1) ↔ x ∈ (xs n).take j ∨ x = p := fun x => by
                rw [take_succ_snoc hp, List.mem_append, List.mem_singleton]
              (conv => whnf); refine VSeq.run ?_
              (conv => whnf); refine ixr (i := j) sl115 hsd' hp rfl ?_
              rintro b11 o11 cs11 hS11 hc11 rfl
              (conv => whnf); refine ldN (cs := ndL p) ag114 hc11 trivial ?_
              (conv => whnf); refine valloc (ndV root) (ndL root) node_z rfl ?_
              intro p11 H11 hp11 hs11 hb11 ha11
              have st11 := st10.box hp11 hs11 hb11 ha11
              (conv => whnf); refine stNB (cs := ndL p) st11 5 rfl rfl (show 0 + 3 ≤ 3 by decide) rfl fun H12 st12 => ?_
              rw [spliceN] at st12
              have r12 := st12.blk 5 rfl
              have s12 := st12.blk 4 rfl
              (conv => whnf); refine ldN (cs := ndL p) ag114 (r12.cells fun j v hv => by rw [Nat.zero_add]; exact hv) trivial ?_
              (conv => whnf); refine mlookOkW (S := fun _ => True) (a := p) mapL keyN hpok (st12.mapW 2 rfl) trivial ?_
              cases hlp : lf10 p with
              | some l =>
                rw [show encL lf10 p = some (.int .i64 (l : Int)) by simp [encL, hlp]]
                (conv => whnf); rw [w64 (x := (j : Int) + 1) (by omega) (by omega)]
                have hskip := hmid10.skip (p := p) (by rw [hlp]; rfl)
                refine ⟨rfl, (j + 1, todo10, a10, c10, seen10), by simp, ⟨by simp only; omega, lf10, ?_, hseen10, hts10, hme10, st12.pick [0, 1, 2, 3, 4] (by decide)⟩, by simp only; omega⟩
                simp only [htk]
                exact hskip
              | none =>
                rw [show encL lf10 p = none by simp [encL, hlp]]
                have hlk10 := hmid10.here
                have hk10 := hseen10.le n k hlk10
                (conv => whnf); refine VDraw.held (Old H12) 6 (sq [0,1,2,3,4,5] (.f 6 .e)) rfl (by kernel_rfl) ?_
                (conv => whnf); refine ldN (cs := ndL p) ag114 (r12.cells fun j v hv => by rw [Nat.zero_add]; exact hv) r12.lt ?_
                (conv => whnf); refine ldN (cs := ndL n) ag114 (s12.cells fun j v hv => by rw [Nat.zero_add]; exact hv) s12.lt ?_
                (conv => whnf); refine mlookW (a := n) mapL keyN hnok (st12.mapW 2 rfl) (st12.in_ 2 rfl rfl).2 ?_
                rw [show (encL lf10 n).getD (.int .i64 0) = .int .i64 (k : Int) by simp [encL, hlk10]]
                (conv => whnf); rw [w64 (x := (k : Int) + 1) (by omega) (by omega)]
                refine mputPW (a := p) st12 2 mapL keyN hpok rfl (encL_put lf10 p (k + 1)) fun H13 st13 => ?_
                have hseen13 := hseen10.push hlp hpr hlk10
                have hM13 := hg.card _ hseen13.nd hseen13.rch
                have hpush := hmid10.push (left' := fun m => if m = p then some (k + 1) else lf10 m) hlp hpr hb hnp fun m => rfl
                rw [List.length_append, List.length_singleton] at hM13
                have r13 := st13.blk 5 rfl
                (conv => whnf); refine ldN (cs := ndL p) ag114 (r13.cells fun j v hv => by rw [Nat.zero_add]; exact hv) trivial ?_
                (conv => whnf); refine vbuild1 sl115 (ndL p) rfl rfl (by decide) (by decide) ?_
                intro q14 H14 hq14 hs14 hb14 ha14
                have st14 := st13.skip hq14 ha14
                (conv => whnf); refine appQ (ys := [p]) (ds := ndL p) st14 3 sl115 rfl (hb14.cells fun j v hv => by rw [Nat.zero_add]; exact hv) (Ty.reps_one rfl) rfl (by simp [ndL, Value.oneCell']) (by simp only [List.length_singleton, maxLen]; omega) (by simp only [List.length_singleton]; omega) fun a' c' H15 st15 _ => ?_
                (conv => whnf); rw [w64 (x := (j : Int) + 1) (by omega) (by omega)]
                refine ⟨rfl, (j + 1, todo10 ++ [p], a', c', seen10 ++ [p]), by simp, ⟨by simp only; omega, _, ?_, hseen13, by simp; omega, by simp; omega, ?_⟩, by simp only; omega⟩
                · simp only [htk]
                  exact hpush
                · simp only [List.length_append, List.length_singleton]
                  exact st15.pick [0, 1, 2, 3, 4] (by decide)
            · obtain rfl : j = (xs n).length := by omega
              rw [List.take_length] at hmid10
              have hB10 := hmid10.end_ fun p b h1 h2 h3 => (hxs n p).2 ⟨h1, b, h2, h3⟩
              (conv => whnf)
              exact ⟨rfl, (todo10, a10, c10, seen10), rfl, ⟨lf10, k, hB10, hseen10, by simp only; omega, st10.pick [0, 1, 2, 3] (by decide)⟩, by simp only [List.length_cons]; omega⟩
        · obtain rfl : todo = [] := by
            cases todo with
            | nil => rfl
            | cons x l => simp at hz2
          have hD := hB.end_
          (conv => whnf); refine vbuildS Try.underlying114 rfl (ndV root) node_z (ndL root) rfl ?_
          (conv => whnf); refine mlookOkW (S := fun _ => True) (a := root) mapL keyN root_ok (st6.mapW 2 rfl) trivial ?_
          cases hroot : lf root with
          | none =>
            rw [show encL lf root = none by simp [encL, hroot]]
            (conv => whnf)
            exact ⟨st6.old, [], false, rfl, ⟨fun h => (by cases h), fun _ => ⟨rfl, hD.none hcov hroot⟩⟩, Nat.zero_le _⟩
          | some L =>
          rw [show encL lf root = some (.int .i64 (L : Int)) by simp [encL, hroot]]
          have hL := hseen.le root L hroot
          (conv => whnf); refine mmakeW (Ok := Nd.Ok) (enc := ndV) fun nb0 H7 hnb7 hs7 hm7 ha7 => ?_
          have st7 := st6.mapNewW hnb7 hs7 hm7 ha7
          (conv => whnf); refine vbuildS Try.underlying114 rfl (ndV root) node_z (ndL root) rfl ?_
          (conv => whnf); refine mputPW (a := root) st7 4 mapL keyN root_ok rfl (enc1_put (fun _ => false) root) fun H8 st8 => ?_
          have st9 := (st8.pick [2, 4] (by decide)).nils (tInt .u8) 5
          obtain ⟨q0, hq0⟩ : ∃ q : Nd → Bool, q = fun m => decide (m = root) || false := ⟨_, rfl⟩
          rw [← hq0] at st9
          have hpre0 : Pre g root lf L L [] (fun n => q0 n = true) := by
            have := Pre.start (g := g) (a := root) (lf := lf) hroot
            rw [hq0]
            simpa using this
          (conv => whnf); rw [w64 (x := (L : Int) - 1) (by omega) (by omega)]
          (conv => whnf)
          refine VLoop.mk [17, 18, 19] (fun x : Nat × List Nat × Option Addr × Nat × Nat × (Nd → Bool) => match x with | (r, w, a, c, nb, q) => [.map (some nb), .slice a w.length c, .int .i64 ((r : Int) - 1)])
            (fun x H9 => Pre g root lf L x.1 x.2.1 (fun n => x.2.2.2.2.2 n = true) ∧ St H H9 [pMW Nd.Ok ndV lb (encL lf), pMW Nd.Ok ndV x.2.2.2.2.1 (enc1 x.2.2.2.2.2), pS (tInt .u8) 5 x.2.2.1 x.2.1.length x.2.2.2.1 (x.2.1.map fun (b : Nat) => (b : Int))]) (fun x _ => x.1) ?_ ?_
          · (conv => whnf)
            exact ⟨(L, [], none, 0, nb0, q0), rfl, hpre0, st9⟩
          · rintro ⟨r, w, a10, c10, nb10, q10⟩ H10 junk10 ⟨hpre, st10⟩
            simp only at hpre st10
            have hwl := hpre.len
            (conv => whnf); refine VIte.mk (fun hz3 => ?_) (fun hz3 => ?_) <;> simp only [decide_eq_true_eq, decide_eq_false_iff_not] at hz3
            · obtain ⟨k, rfl⟩ : ∃ k, r = k + 1 := ⟨r - 1, by omega⟩
              rw [show ((k + 1 : Nat) : Int) - 1 = (k : Int) by omega]
              (conv => whnf)
              refine VSeq.cut [17, 18] (fun x : List Nat × Option Addr × Nat × Nat × (Nd → Bool) => match x with | (w, a, c, nb, q) => [.map (some nb), .slice a w.length c])
                (fun x H11 => Pre g root lf L k x.1 (fun n => x.2.2.2.2 n = true) ∧ St H H11 [pMW Nd.Ok ndV lb (encL lf), pMW Nd.Ok ndV x.2.2.2.1 (enc1 x.2.2.2.2), pS (tInt .u8) 5 x.2.1 x.1.length x.2.2.1 (x.1.map fun (b : Nat) => (b : Int))]) ?_ ?_
              · have q10' := hblk.agr (st10.old.mono hS) hpg
                (conv => whnf); refine fa fl112_0 ?_
                (conv => whnf); refine ld1 (v := .slice ba by_.length bc) ct107 (by rw [q10'.cell]; rfl) trivial ?_
                (conv => whnf)
                refine VLoop.mk [17, 18, 110] (fun j : Nat => [.map (some nb10), .slice a10 w.length c10, .int .i64 (j : Int)])
                  (fun j H11 => j ≤ by_.length ∧ (∀ c ∈ by_.take j, ∀ t, ¬ (stepP g (fun n => q10 n = true) c t ∧ lf t = some k)) ∧ St H H11 [pMW Nd.Ok ndV lb (encL lf), pMW Nd.Ok ndV nb10 (enc1 q10), pS (tInt .u8) 5 a10 w.length c10 (w.map fun (b : Nat) => (b : Int))]) (fun j _ => by_.length - j) ?_ ?_
                · (conv => whnf)
                  exact ⟨0, rfl, Nat.zero_le _, by simp, st10⟩
                · rintro j H11 junk11 ⟨hj, hno, st11⟩
                  (conv => whnf); refine VIte.mk (fun hz4 => ?_) (fun hz4 => ?_) <;> simp only [decide_eq_true_eq, decide_eq_false_iff_not] at hz4
                  · obtain ⟨b, hb⟩ := get_some (l := by_) (k := j) (by omega)
                    have hbmem := List.mem_of_getElem? hb
                    have hb8 := hg.byl b hbmem
                    (conv => whnf); refine ixrn (i := j) (x := (b : Int)) sl107 (hby.frame (st11.old.mono hS)) (by simp) (by rw [List.getElem?_map, hb]; rfl) rfl ?_
                    rintro b12 o12 cs12 hS12 hc12 ⟨rfl, -⟩
                    (conv => whnf); refine ld1 ct5 hc12.one trivial ?_
                    (conv => whnf); refine mmakeW (Ok := Nd.Ok) (enc := ndV) fun tb H12 htb12 hs12 hm12 ha12 => ?_
                    have st12 := st11.mapNewW htb12 hs12 hm12 ha12
                    (conv => whnf); refine mrangeP st12 1 mapL rfl fun rr n0 H13 st13 => ?_
                    (conv => whnf)
                    refine VLoop.mk [] (fun x : Nat × (Nd → Prop) × Option Nd × (Nd → Bool) => [])
                      (fun x H14 => (∀ t, x.2.2.2 t = true ↔ ∃ n, x.2.1 n ∧ q10 n = true ∧ t ∈ g.next n b ∧ lf t = some k) ∧
                        St H H14 [pMW Nd.Ok ndV lb (encL lf), pIW Nd.Ok ndV nb10 rr (enc1 q10) x.2.1 x.2.2.1 x.1, pS (tInt .u8) 5 a10 w.length c10 (w.map fun (b : Nat) => (b : Int)), pMW Nd.Ok ndV tb (enc1 x.2.2.2)]) (fun x _ => x.1) ?_ ?_
                    · (conv => whnf)
                      exact ⟨(n0, fun _ => False, none, fun _ => false), rfl, by simp, st13⟩
                    · rintro ⟨cnt, D, last, qt⟩ H14 junk14 ⟨hqt, st14⟩
                      simp only at hqt st14
                      (conv => whnf); refine mnextP st14 1 ndV_inj rfl (fun hall => ?_) fun n v15 H15 cnt15 hmn hnD hlt st15 => ?_
                      · have st15 := st14.iterEnd 1 rfl
                        have hQ : ∀ t, qt t = true ↔ stepP g (fun n => q10 n = true) b t ∧ lf t = some k := fun t => by
                          rw [hqt]
                          constructor
                          · rintro ⟨n, -, h1, h2, h3⟩; exact ⟨⟨n, h1, h2⟩, h3⟩
                          · rintro ⟨⟨n, h1, h2⟩, h3⟩; exact ⟨n, hall n (enc1_some.2 h1), h1, h2, h3⟩
                        (conv => whnf); refine mlen (S := fun _ => True) mapL (st15.mapW 3 rfl) trivial fun c hc => ?_
                        by_cases hne : ∃ t, qt t = true
                        · have hc0 : c ≠ 0 := fun h => by
                            obtain ⟨t, ht⟩ := hne
                            have := enc1_none.1 (hc.1 h t)
                            rw [ht] at this; cases this
                          have d1 : decide ((0 : Int) < (c : Int)) = true := decide_eq_true (by omega)
                          have hstep := hpre.step hcov hD hg.byl hsort hb hQ hne hno
                          (conv => whnf); rw [d1]
                          (conv => whnf); refine vbuild1 sl107 [.int .u8 (b : Int)] rfl rfl (by decide) (by decide) ?_
                          intro q16 H16 hq16 hs16 hb16 ha16
                          have st16 := st15.skip hq16 ha16
                          (conv => whnf); refine appG (ys := [(b : Int)]) (ds := [.int .u8 (b : Int)]) st16 2 sl107 rfl (hb16.cells fun j v hv => by rw [Nat.zero_add]; exact hv) (Ty.reps_one ⟨rfl, inU8 hb8⟩) rfl (by simp [Value.oneCell']) (by simp only [List.length_singleton, List.length_map, maxLen]; omega) (by simp only [List.length_singleton, List.length_map]; omega) fun a' c' H17 st17 _ => ?_
                          (conv => whnf)
                          simp only [List.length_map, List.length_singleton] at st17
                          refine ⟨rfl, (w ++ [b], a', c', tb, qt), by simp, hstep, ?_⟩
                          simp only [List.length_append, List.length_singleton, List.map_append, List.map_cons, List.map_nil]
                          exact st17.pick [0, 3, 2] (by decide)
                        · have hc0 : c = 0 := hc.2 fun t => by
                            refine enc1_none.2 ?_
                            cases h : qt t with
                            | false => rfl
                            | true => exact absurd ⟨t, h⟩ hne
                          subst hc0
                          (conv => whnf); rw [w64 (x := (j : Int) + 1) (by omega) (by omega)]
                          refine ⟨rfl, j + 1, rfl, ⟨by omega, fun c hc t ht => ?_, st15.pick [0, 1, 2] (by decide)⟩, by omega⟩
                          rw [take_succ_snoc hb, List.mem_append, List.mem_singleton] at hc
                          rcases hc with hc | rfl
                          · exact hno c hc t ht
                          · exact hne ⟨t, (hQ t).2 ht⟩
                      · have hqn : q10 n = true := enc1_some.1 (by rw [hmn]; rfl)
                        have hln := hpre.all n hqn
                        obtain ⟨hnr, -⟩ := hD.word n _ hln
                        have hv15 : v15 = .int .i64 1 := by
                          unfold enc1 at hmn
                          rw [hqn, if_pos rfl] at hmn
                          injection hmn with hmn
                          exact hmn.symm
                        subst hv15
                        (conv => whnf); refine mhere (st15.iterW 1 rfl) ndV_inj hmn ?_
                        (conv => whnf); refine valloc (ndV root) (ndL root) node_z rfl ?_
                        intro p16 H16 hp16 hs16 hb16 ha16
                        have st16 := st15.box hp16 hs16 hb16 ha16
                        (conv => whnf); refine stNB (cs := ndL n) st16 4 rfl rfl (show 0 + 3 ≤ 3 by decide) rfl fun H17 st17 => ?_
                        rw [spliceN] at st17
                        have r17 := st17.blk 4 rfl
                        (conv => whnf); refine VDraw.held (Old H17) 99 (sq [0,1,2,3,4,5,8] (.f 6 (sq [7] .e))) rfl (by kernel_rfl) ?_
                        have q17 := hblk.agr (st17.old.mono hS) hpg
                        (conv => whnf); refine fa fl112_1 ?_
                        (conv => whnf); refine ld1 (v := .func (.func f) fs.toArray cs.toArray) ct109 (by rw [q17.cell]; rfl) (st17.up (hS pg hpg)) ?_
                        (conv => whnf); refine ldN (cs := ndL n) ag114 (r17.cells fun j v hv => by rw [Nat.zero_add]; exact hv) r17.lt ?_
                        (conv => whnf); refine VCall.mk (hnext H17 (st17.old.mono hS) n b hnr hbmem) ?_
                        rintro _ H18 ⟨ha18, hown18⟩
                        refine ⟨ha18, ?_⟩
                        obtain ⟨a18, c18, rfl, st18⟩ := st17.got ha18 hown18
                        have hmax := st18.max 5 rfl
                        unfold maxLen at hmax
                        have hnx : ∀ t, t ∈ g.next n b → t.Ok := fun t ht => hg.ok t (hnr.step hbmem ht)
                        have hqt18 : ∀ t, (∃ m, (D m ∨ m = n) ∧ q10 m = true ∧ t ∈ g.next m b ∧ lf t = some k) ↔ qt t = true ∨ (t ∈ g.next n b ∧ lf t = some k) := fun t => by
                          rw [hqt]
                          constructor
                          · rintro ⟨m, h1 | rfl, h2, h3, h4⟩
                            · exact .inl ⟨m, h1, h2, h3, h4⟩
                            · exact .inr ⟨h3, h4⟩
                          · rintro (⟨m, h1, h2, h3, h4⟩ | ⟨h3, h4⟩)
                            · exact ⟨m, .inl h1, h2, h3, h4⟩
                            · exact ⟨n, .inr rfl, hqn, h3, h4⟩
                        generalize g.next n b = ls at *
                        (conv => whnf)
                        refine VLoop.mk [129] (fun x : Nat × (Nd → Bool) => match x with | (j, q) => [.int .i64 (j : Int)])
                          (fun x H19 => x.1 ≤ ls.length ∧ (∀ t, x.2 t = true ↔ qt t = true ∨ (t ∈ ls.take x.1 ∧ lf t = some k)) ∧
                            St H H19 [pMW Nd.Ok ndV lb (encL lf), pIW Nd.Ok ndV nb10 rr (enc1 q10) (fun x => D x ∨ x = n) (some n) cnt15, pS (tInt .u8) 5 a10 w.length c10 (w.map fun (b : Nat) => (b : Int)), pMW Nd.Ok ndV tb (enc1 x.2), pS tNd 114 a18 ls.length c18 ls]) (fun x _ => ls.length - x.1) ?_ ?_
                        · (conv => whnf)
                          exact ⟨(0, qt), rfl, by simp, by simp, st18.pick [0, 1, 2, 3, 5] (by decide)⟩
                        · rintro ⟨l, qu⟩ H19 junk19 ⟨hl, hqu, st19⟩
                          simp only at hl hqu st19
                          (conv => whnf); refine VIte.mk (fun hz5 => ?_) (fun hz5 => ?_) <;> simp only [decide_eq_true_eq, decide_eq_false_iff_not] at hz5
                          · obtain ⟨t, ht⟩ := get_some (l := ls) (k := l) (by omega)
                            have htok := hnx t (List.mem_of_getElem? ht)
                            have htk : ∀ x, x ∈ ls.take (l + 1) ↔ x ∈ ls.take l ∨ x = t := fun x => by
                              rw [take_succ_snoc ht, List.mem_append, List.mem_singleton]
                            (conv => whnf); refine VSeq.run ?_
                            (conv => whnf); refine ixO (j := l) sl115 st19 4 rfl ht rfl fun b20 o20 cs20 hO20 hc20 hr20 => ?_
                            obtain rfl := hr20
                            (conv => whnf); refine ldN (cs := ndL t) ag114 hc20 trivial ?_
                            (conv => whnf); refine valloc (ndV root) (ndL root) node_z rfl ?_
                            intro p20 H20 hp20 hs20 hb20 ha20
                            have st20 := st19.box hp20 hs20 hb20 ha20
                            (conv => whnf); refine stNB (cs := ndL t) st20 5 rfl rfl (show 0 + 3 ≤ 3 by decide) rfl fun H21 st21 => ?_
                            rw [spliceN] at st21
                            have r21 := st21.blk 5 rfl
                            (conv => whnf); refine ldN (cs := ndL t) ag114 (r21.cells fun j v hv => by rw [Nat.zero_add]; exact hv) trivial ?_
                            (conv => whnf); refine mlookOkW (S := fun _ => True) (a := t) mapL keyN htok (st21.mapW 0 rfl) trivial ?_
                            have skip : lf t ≠ some k → ∀ t', qu t' = true ↔ qt t' = true ∨ (t' ∈ ls.take (l + 1) ∧ lf t' = some k) := fun hlt t' => by
                              rw [hqu, htk]
                              constructor
                              · rintro (h | ⟨h1, h2⟩)
                                · exact .inl h
                                · exact .inr ⟨.inl h1, h2⟩
                              · rintro (h | ⟨h1 | rfl, h2⟩)
                                · exact .inl h
                                · exact .inr ⟨h1, h2⟩
                                · exact absurd h2 hlt
                            cases hlt : lf t with
                            | none =>
                              rw [show encL lf t = none by simp [encL, hlt]]
                              (conv => whnf); rw [w64 (x := (l : Int) + 1) (by omega) (by omega)]
                              exact ⟨rfl, (l + 1, qu), rfl, ⟨by simp only; omega, skip (by rw [hlt]; simp), st21.pick [0, 1, 2, 3, 4] (by decide)⟩, by simp only; omega⟩
                            | some l' =>
                              rw [show encL lf t = some (.int .i64 (l' : Int)) by simp [encL, hlt]]
                              by_cases hlk : l' = k
                              · subst hlk
                                have d2 : (((l' : Nat) : Int) == (l' : Int)) = true := beq_self_eq_true _
                                (conv => whnf); rw [d2]
                                (conv => whnf); refine ldN (cs := ndL t) ag114 (r21.cells fun j v hv => by rw [Nat.zero_add]; exact hv) trivial ?_
                                (conv => whnf); refine mputPW (a := t) st21 3 mapL keyN htok rfl (enc1_put qu t) fun H22 st22 => ?_
                                (conv => whnf); rw [w64 (x := (l : Int) + 1) (by omega) (by omega)]
                                refine ⟨rfl, (l + 1, fun m => decide (m = t) || qu m), rfl, ⟨by simp only; omega, fun t' => ?_, st22.pick [0, 1, 2, 3, 4] (by decide)⟩, by simp only; omega⟩
                                simp only [Bool.or_eq_true, decide_eq_true_eq]
                                rw [hqu, htk]
                                constructor
                                · rintro (rfl | h | ⟨h1, h2⟩)
                                  · exact .inr ⟨.inr rfl, hlt⟩
                                  · exact .inl h
                                  · exact .inr ⟨.inl h1, h2⟩
                                · rintro (h | ⟨h1 | rfl, h2⟩)
                                  · exact .inr (.inl h)
                                  · exact .inr (.inr ⟨h1, h2⟩)
                                  · exact .inl rfl
                              · have d2 : (((l' : Nat) : Int) == (k : Int)) = false := beq_eq_false_iff_ne.2 (by omega)
                                (conv => whnf); rw [d2]
                                (conv => whnf); rw [w64 (x := (l : Int) + 1) (by omega) (by omega)]
                                exact ⟨rfl, (l + 1, qu), rfl, ⟨by simp only; omega, skip (by rw [hlt]; intro h; injection h with h; exact hlk h), st21.pick [0, 1, 2, 3, 4] (by decide)⟩, by simp only; omega⟩
                          · obtain rfl : l = ls.length := by omega
                            rw [List.take_length] at hqu
                            (conv => whnf)
                            refine ⟨rfl, (cnt15, fun x => D x ∨ x = n, some n, qu), rfl, ⟨fun t => ?_, st19.pick [0, 1, 2, 3] (by decide)⟩, hlt⟩
                            rw [hqt18, hqu]
                  · obtain rfl : j = by_.length := by omega
                    rw [List.take_length] at hno
                    obtain ⟨b, hb, t, ht⟩ := hpre.some hD
                    exact absurd ht (hno b hb t)
              · rintro ⟨w11, a11, c11, nb11, q11⟩ H11 junk11 ⟨hpre11, st11⟩
                simp only at hpre11 st11
                (conv => whnf); rw [w64 (x := (k : Int) - 1) (by omega) (by omega)]
                exact ⟨rfl, (k, w11, a11, c11, nb11, q11), rfl, ⟨hpre11, st11⟩, by simp only; omega⟩
            · obtain rfl : r = 0 := by omega
              (conv => whnf); refine vstrOut w st10 2 rfl rfl rfl rfl ?_
              (conv => whnf)
              exact ⟨st10.old, w, true, rfl, ⟨fun _ => hD.first hcov hroot (hpre.done hD), fun h => (by cases h)⟩, by omega⟩
end Go.Proofs.Ytpnnedkpbmilkaa
