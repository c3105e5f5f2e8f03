import Derived.Test.YtpnnedkpbmilkaaPBits
import Derived.Test.YtpnnedkpbmilkaaVMore
import Derived.Test.YtpnnedkpbmilkaaPCellO
/- class.Not, class.Minus, class.Atoms. -/
set_option linter.unusedVariables false
set_option linter.unusedSimpArgs false
set_option maxRecDepth 100000
namespace Go.VC
theorem xor_ones {x : Nat} (h : x < 18446744073709551616) : 18446744073709551615 ^^^ x = 18446744073709551615 - x := by
  have h1 : (BitVec.ofNat 64 x ^^^ BitVec.allOnes 64).toNat = (~~~(BitVec.ofNat 64 x)).toNat := by rw [BitVec.xor_allOnes]
  rw [BitVec.toNat_xor, BitVec.toNat_not, BitVec.toNat_ofNat, BitVec.toNat_allOnes, Nat.mod_eq_of_lt (by simpa using h), Nat.xor_comm] at h1
  simpa using h1
theorem vxor1 {P : Program} {x : Nat} {S : Nat → Prop} {H : Heap} {K : Value → Prop} (hx : x < 18446744073709551616) (k : K (.int .u64 ((18446744073709551615 - x : Nat) : Int))) : VDet P (Op.unary .xor (.int .u64 (x : Int))) S H K := by
  refine VDet.mk _ (fun w _ => ?_) k
  have h1 : IntKind.u64.max = 18446744073709551615 := rfl
  have h2 : IntKind.u64.signed = false := rfl
  have e1 : (BitVec.ofInt IntKind.u64.bits (18446744073709551615 : Int) ^^^ BitVec.ofInt IntKind.u64.bits (x : Int)).toNat = 18446744073709551615 - x := by
    show (BitVec.ofInt 64 ((18446744073709551615 : Nat) : Int) ^^^ BitVec.ofInt 64 (x : Int)).toNat = _
    rw [BitVec.ofInt_natCast, BitVec.ofInt_natCast, BitVec.toNat_xor, BitVec.toNat_ofNat, BitVec.toNat_ofNat, Nat.mod_eq_of_lt (a := x) hx]
    exact xor_ones hx
  have e2 : IntKind.wrap .u64 ((18446744073709551615 - x : Nat) : Int) = ((18446744073709551615 - x : Nat) : Int) := wrap_in ⟨by show (0 : Int) ≤ _; omega, by rw [h1]; omega⟩
  show (pure (Value.int .u64 (IntKind.wrap .u64 ((BitVec.ofInt IntKind.u64.bits (if IntKind.u64.signed = true then (-1 : Int) else IntKind.u64.max) ^^^ BitVec.ofInt IntKind.u64.bits (x : Int)).toNat : Int))) : Sem Value).run P w = _
  rw [h2, h1]
  simp only [Bool.false_eq_true, if_false]
  rw [e1, e2]
  rfl
end Go.VC
namespace Go.Proofs.Ytpnnedkpbmilkaa
open Go.VC

theorem wd_not (a : BitVec 256) (i : Nat) (hi : i < 4) : wd (~~~a) i = 18446744073709551615 - wd a i := by
  have ha := a.isLt
  unfold wd
  rw [BitVec.toNat_not]
  match i, hi with
  | 0, _ => simp only [Nat.reduceMul, Nat.reducePow] at *; omega
  | 1, _ => simp only [Nat.reduceMul, Nat.reducePow] at *; omega
  | 2, _ => simp only [Nat.reduceMul, Nat.reducePow] at *; omega
  | 3, _ => simp only [Nat.reduceMul, Nat.reducePow] at *; omega
theorem not_c (a : BitVec 256) (H : Heap) : Pure Try.prog 91 #[setV a] H (setV (~~~a)) := by
  have hw : ∀ i, wd a i < 18446744073709551616 := fun i => wd_lt a i
  refine FnOk.of_vc Try.func91 rfl (Try.call91 _) ?_
  (conv => whnf); refine vbox (setL a) rfl ?_
  intro p H1 hp hs1 hb1 ha1
  (conv => whnf); refine valloc (setV 0) (setL 0) rfl rfl ?_
  intro r H3 hr hs3 hb3 ha3
  replace hb1 := hb1.agr ha3 (show p < r by omega)
  (conv => whnf); refine ixa ar41 (by decide) (by decide) ?_
  (conv => whnf); refine ld1 ct39 ((hb1.cell _).trans rfl) trivial ?_
  (conv => whnf); refine vxor1 (hw _) ?_
  (conv => whnf); refine ixa ar41 (by decide) (by decide) ?_
  (conv => whnf); refine ld1 ct39 ((hb1.cell _).trans rfl) trivial ?_
  (conv => whnf); refine vxor1 (hw _) ?_
  (conv => whnf); refine ixa ar41 (by decide) (by decide) ?_
  (conv => whnf); refine ld1 ct39 ((hb1.cell _).trans rfl) trivial ?_
  (conv => whnf); refine vxor1 (hw _) ?_
  (conv => whnf); refine ixa ar41 (by decide) (by decide) ?_
  (conv => whnf); refine ld1 ct39 ((hb1.cell _).trans rfl) trivial ?_
  (conv => whnf); refine vxor1 (hw _) ?_
  rw [← wd_not a 0 (by decide), ← wd_not a 1 (by decide), ← wd_not a 2 (by decide), ← wd_not a 3 (by decide)]
  (conv => whnf); refine vbuildA ar41 (setV 0) rfl (setL (~~~a)) rfl ?_
  (conv => whnf); refine VC.stN rfl hb3 (show 0 + 4 ≤ 4 by decide) rfl ?_
  intro H4 hb4 ha4 hs4
  (conv => whnf); refine ldN (cs := setL (~~~a)) ag41 (hb4.cells (fun j v hv => by simpa [splice, setL] using hv)) trivial ?_
  exact ⟨rfl, fun k hk => by rw [ha4 k (by omega), ha3 k (by omega), ha1 k (by omega)]⟩
theorem minus_c (a b : BitVec 256) (H : Heap) : Pure Try.prog 90 #[setV a, setV b] H (setV (a &&& ~~~b)) := by
  refine FnOk.of_vc Try.func90 rfl (Try.call90 _) ?_
  (conv => whnf); refine vbox (setL a) rfl ?_
  intro p H1 hp hs1 hb1 ha1
  have st1 := (St.nil H).box hp hs1 hb1 ha1
  (conv => whnf); refine vbox (setL b) rfl ?_
  intro q H2 hq hs2 hb2 ha2
  have st2 := st1.box hq hs2 hb2 ha2
  (conv => whnf); refine valloc (setV 0) (setL 0) rfl rfl ?_
  intro r H3 hr hs3 hb3 ha3
  have st3 := st2.box hr hs3 hb3 ha3
  (conv => whnf); refine VDraw.held (Old H3) 4 (sq [0,1] (.f 2 (.f 3 (.f 4 .e)))) rfl (by kernel_rfl) ?_
  (conv => whnf); refine ldN (cs := setL a) ag41 ((st3.blk 0 rfl).cells fun j v hv => by rw [Nat.zero_add]; exact hv) (st3.blk 0 rfl).lt ?_
  (conv => whnf); refine ldN (cs := setL b) ag41 ((st3.blk 1 rfl).cells fun j v hv => by rw [Nat.zero_add]; exact hv) (st3.blk 1 rfl).lt ?_
  (conv => whnf); refine pures (not_c b H3) fun H4 ha4 => ?_
  have st4 := st3.call ha4
  refine ⟨ha4, ?_⟩
  (conv => whnf); refine pures (meet_c a (~~~b) H4) fun H5 ha5 => ?_
  have st5 := st4.call ha5
  refine ⟨ha4.trans (ha5.mono fun k hk => old_lt ha4 hk), ?_⟩
  (conv => whnf); refine stNB (cs := setL (a &&& ~~~b)) st5 2 rfl rfl (show 0 + 4 ≤ 4 by decide) rfl fun H6 st6 => ?_
  (conv => whnf); refine ldN (cs := setL (a &&& ~~~b)) ag41 ((st6.blk 2 rfl).cells (fun j v hv => by simpa [splice, setL] using hv)) trivial ?_
  exact ⟨rfl, st6.old⟩
end Go.Proofs.Ytpnnedkpbmilkaa

/- class.Atoms: the plain law. -/
set_option linter.unusedVariables false
set_option linter.unusedSimpArgs false
set_option maxRecDepth 100000
namespace Go.Proofs.Ytpnnedkpbmilkaa
open Go.VC

/-- The two parts of b, without what is empty. -/
def cutB (s b : BitVec 256) : List (BitVec 256) := [b &&& s, b &&& ~~~s].filter fun x => !decide (x = 0)
def partB (bl : List (BitVec 256)) (s : BitVec 256) : List (BitVec 256) := bl.flatMap (cutB s)
def blocksM (sets : List (BitVec 256)) : List (BitVec 256) := sets.foldl partB [BitVec.allOnes 256]
def atomsAt (bl : List (BitVec 256)) (b : Nat) : List (BitVec 256) := bl.filter fun s => (nextM s 0).1 == b
def atomsM (sets : List (BitVec 256)) : List (BitVec 256) := (List.range 256).flatMap (atomsAt (blocksM sets))
def repsM (sets : List (BitVec 256)) : List Nat := (atomsM sets).map fun c => (nextM c 0).1

theorem bits_zero (x : BitVec 256) (h : ∀ b, b < 256 → x.getLsbD b = false) : x = 0 := by
  apply BitVec.eq_of_getLsbD_eq
  intro i hi
  rw [h i hi]; simp
theorem least_of {x : BitVec 256} (h : x ≠ 0) : x.getLsbD (nextM x 0).1 = true ∧ ∀ b, b < (nextM x 0).1 → x.getLsbD b = false := by
  unfold nextM
  cases hf : (List.range 256).find? fun b => decide (0 ≤ b) && x.getLsbD b with
  | none =>
    exfalso
    apply h
    apply bits_zero
    intro b hb
    have := List.find?_eq_none.1 hf b (List.mem_range.2 hb)
    simpa using this
  | some c =>
    have h1 := List.find?_some hf
    simp only [Nat.zero_le, decide_true, Bool.true_and] at h1
    refine ⟨h1, fun b hb => ?_⟩
    have hc : c < 256 := by simpa using List.mem_of_find?_eq_some hf
    obtain ⟨_, i, hi, hge, hbef⟩ := List.find?_eq_some_iff_getElem.1 hf
    simp only [List.getElem_range] at hge
    subst hge
    have := hbef b hb
    simpa using this
theorem cut_ne (s b : BitVec 256) : ∀ x ∈ cutB s b, x ≠ 0 := fun x hx => by
  have := (List.mem_filter.1 hx).2
  simpa using this
theorem cut_at (s b : BitVec 256) {c : Nat} (h : b.getLsbD c = true) : ∃ x ∈ cutB s b, x.getLsbD c = true := by
  have hc : c < 256 := by
    apply Classical.byContradiction
    intro hn
    rw [BitVec.getLsbD_of_ge _ _ (by omega)] at h; cases h
  have key : ∀ x : BitVec 256, x.getLsbD c = true → x ≠ 0 := fun x hx h0 => by rw [h0] at hx; simp at hx
  cases hs : s.getLsbD c with
  | true =>
    have h1 : (b &&& s).getLsbD c = true := by rw [BitVec.getLsbD_and, h, hs]; rfl
    exact ⟨b &&& s, List.mem_filter.2 ⟨by simp, by rw [decide_eq_false (key _ h1)]; rfl⟩, h1⟩
  | false =>
    have h1 : (b &&& ~~~s).getLsbD c = true := by rw [BitVec.getLsbD_and, BitVec.getLsbD_not, h, hs]; simp [hc]
    exact ⟨b &&& ~~~s, List.mem_filter.2 ⟨by simp, by rw [decide_eq_false (key _ h1)]; rfl⟩, h1⟩
theorem cut_sub (s b : BitVec 256) {x : BitVec 256} (hx : x ∈ cutB s b) {c : Nat} (h : x.getLsbD c = true) : b.getLsbD c = true := by
  have := (List.mem_filter.1 hx).1
  rcases List.mem_cons.1 this with rfl | this
  · rw [BitVec.getLsbD_and, Bool.and_eq_true] at h; exact h.1
  · rw [List.mem_singleton] at this
    subst this
    rw [BitVec.getLsbD_and, Bool.and_eq_true] at h; exact h.1
theorem cut_same (s b : BitVec 256) {x : BitVec 256} (hx : x ∈ cutB s b) {c d : Nat} (h : x.getLsbD c = true) (k : x.getLsbD d = true) : s.getLsbD c = s.getLsbD d := by
  have := (List.mem_filter.1 hx).1
  rcases List.mem_cons.1 this with rfl | this
  · rw [BitVec.getLsbD_and, Bool.and_eq_true] at h k; rw [h.2, k.2]
  · rw [List.mem_singleton] at this
    subst this
    rw [BitVec.getLsbD_and, Bool.and_eq_true, BitVec.getLsbD_not] at h k
    have h2 := h.2; have k2 := k.2
    simp only [Bool.and_eq_true, Bool.not_eq_true'] at h2 k2
    rw [h2.2, k2.2]
theorem count_pos {x : BitVec 256} (h : x ≠ 0) : 1 ≤ countM x := by
  have h1 := (least_of h).1
  have h2 := nextM_lt x 0
  unfold countM
  exact List.length_pos_of_mem (a := (nextM x 0).1) (List.mem_filter.2 ⟨List.mem_range.2 h2, h1⟩)
theorem filter_two (p q r : Nat → Bool) : ∀ l : List Nat, (∀ c ∈ l, (p c = true ∧ q c = false ∧ r c = true) ∨ (p c = false ∧ q c = true ∧ r c = true) ∨ (p c = false ∧ q c = false ∧ r c = false)) → (l.filter p).length + (l.filter q).length = (l.filter r).length
  | [], _ => rfl
  | c :: l, h => by
    have ih := filter_two p q r l fun d hd => h d (List.mem_cons_of_mem _ hd)
    rcases h c List.mem_cons_self with ⟨h1, h2, h3⟩ | ⟨h1, h2, h3⟩ | ⟨h1, h2, h3⟩ <;> simp only [List.filter_cons, h1, h2, h3, if_true, Bool.false_eq_true, if_false, List.length_cons] <;> omega
theorem count_cut (s b : BitVec 256) : countM (b &&& s) + countM (b &&& ~~~s) = countM b := by
  unfold countM
  refine filter_two _ _ _ _ fun c hc => ?_
  have hc := List.mem_range.1 hc
  have e1 : (b &&& s).getLsbD c = (b.getLsbD c && s.getLsbD c) := BitVec.getLsbD_and
  have e2 : (b &&& ~~~s).getLsbD c = (b.getLsbD c && !s.getLsbD c) := by rw [BitVec.getLsbD_and, BitVec.getLsbD_not]; simp [hc]
  rw [e1, e2]
  cases b.getLsbD c <;> cases s.getLsbD c <;> simp
theorem count_zero : countM 0 = 0 := by
  unfold countM
  simp
theorem cut_sum (s b : BitVec 256) : ((cutB s b).map countM).sum = countM b := by
  rw [← count_cut s b]
  unfold cutB
  have key : ∀ x : BitVec 256, (([x].filter fun x => !decide (x = 0)).map countM).sum = countM x := fun x => by
    by_cases h : x = 0
    · subst h; rw [count_zero]; rfl
    · rw [List.filter_cons_of_pos (by rw [decide_eq_false h]; rfl)]; simp
  rw [show [b &&& s, b &&& ~~~s] = [b &&& s] ++ [b &&& ~~~s] from rfl, List.filter_append, List.map_append, List.sum_append, key, key]
/-- What the blocks of given sets are like. -/
structure PartOk (bl sets : List (BitVec 256)) : Prop where
  ne : ∀ x ∈ bl, x ≠ 0
  all : ∀ c, c < 256 → ∃ x ∈ bl, x.getLsbD c = true
  same : ∀ x ∈ bl, ∀ c d, x.getLsbD c = true → x.getLsbD d = true → ∀ s ∈ sets, s.getLsbD c = s.getLsbD d
  sum : (bl.map countM).sum = 256
theorem PartOk.len {bl sets : List (BitVec 256)} (h : PartOk bl sets) : bl.length ≤ 256 := by
  refine Nat.le_trans ?_ (Nat.le_of_eq h.sum)
  have key : ∀ l : List (BitVec 256), (∀ x ∈ l, x ≠ 0) → l.length ≤ (l.map countM).sum := by
    intro l
    induction l with
    | nil => intro _; exact Nat.le_refl _
    | cons x l ih =>
      intro h
      have := ih fun y hy => h y (List.mem_cons_of_mem _ hy)
      have := count_pos (h x List.mem_cons_self)
      simp only [List.length_cons, List.map_cons, List.sum_cons]; omega
  exact key bl h.ne
theorem PartOk.cut {bl sets : List (BitVec 256)} (h : PartOk bl sets) (s : BitVec 256) : PartOk (partB bl s) (sets ++ [s]) := by
  refine ⟨fun x hx => ?_, fun c hc => ?_, fun x hx c d hxc hxd t ht => ?_, ?_⟩
  · obtain ⟨b, hb, hx⟩ := List.mem_flatMap.1 hx
    exact cut_ne s b x hx
  · obtain ⟨b, hb, hbc⟩ := h.all c hc
    obtain ⟨x, hx, hxc⟩ := cut_at s b hbc
    exact ⟨x, List.mem_flatMap.2 ⟨b, hb, hx⟩, hxc⟩
  · obtain ⟨b, hb, hx⟩ := List.mem_flatMap.1 hx
    rcases List.mem_append.1 ht with ht | ht
    · exact h.same b hb c d (cut_sub s b hx hxc) (cut_sub s b hx hxd) t ht
    · rw [List.mem_singleton] at ht
      subst ht
      exact cut_same t b hx hxc hxd
  · refine Eq.trans ?_ h.sum
    unfold partB
    clear h
    induction bl with
    | nil => rfl
    | cons b bl ih =>
      rw [List.flatMap_cons, List.map_append, List.sum_append, ih, cut_sum, List.map_cons, List.sum_cons]
theorem part_ok (sets : List (BitVec 256)) : PartOk (blocksM sets) sets := by
  have key : ∀ (rest done bl : List (BitVec 256)), PartOk bl done → PartOk (rest.foldl partB bl) (done ++ rest) := by
    intro rest
    induction rest with
    | nil => intro done bl h; simpa using h
    | cons s rest ih =>
      intro done bl h
      have := ih (done ++ [s]) (partB bl s) (h.cut s)
      simpa using this
  refine key sets [] [BitVec.allOnes 256] ⟨fun x hx => ?_, fun c hc => ⟨_, List.mem_singleton.2 rfl, by rw [BitVec.getLsbD_allOnes]; exact decide_eq_true hc⟩, fun x hx c d _ _ s hs => (by cases hs), by kernel_rfl⟩
  rw [List.mem_singleton] at hx
  subst hx
  decide
/-- The least bytes of the atoms: rising; and each byte has one of them, no greater, that no given set tells from it. -/
theorem reps_sorted (sets : List (BitVec 256)) : (repsM sets).Pairwise (· ≤ ·) := by
  unfold repsM atomsM
  rw [List.pairwise_map]
  have hmem : ∀ b x, x ∈ atomsAt (blocksM sets) b → (nextM x 0).1 = b := fun b x hx => by
    have := (List.mem_filter.1 hx).2
    simpa using this
  have key : ∀ l : List Nat, l.Pairwise (· < ·) → (l.flatMap (atomsAt (blocksM sets))).Pairwise fun x y => (nextM x 0).1 ≤ (nextM y 0).1 := by
    intro l
    induction l with
    | nil => intro _; exact List.Pairwise.nil
    | cons b l ih =>
      intro h
      obtain ⟨h1, h2⟩ := List.pairwise_cons.1 h
      rw [List.flatMap_cons, List.pairwise_append]
      refine ⟨?_, ih h2, fun x hx y hy => ?_⟩
      · refine List.pairwise_of_forall_mem_list fun x hx y hy => ?_
        rw [hmem b x hx, hmem b y hy]; exact Nat.le_refl _
      · obtain ⟨b', hb', hy⟩ := List.mem_flatMap.1 hy
        rw [hmem b x hx, hmem b' y hy]
        exact Nat.le_of_lt (h1 b' hb')
  exact key _ List.pairwise_lt_range
theorem reps_lt (sets : List (BitVec 256)) : ∀ r ∈ repsM sets, r < 256 := fun r hr => by
  obtain ⟨x, -, rfl⟩ := List.mem_map.1 hr
  exact nextM_lt x 0
theorem reps_cov (sets : List (BitVec 256)) {c : Nat} (hc : c < 256) : ∃ r ∈ repsM sets, r ≤ c ∧ ∀ s ∈ sets, s.getLsbD r = s.getLsbD c := by
  have h := part_ok sets
  obtain ⟨x, hx, hxc⟩ := h.all c hc
  obtain ⟨l1, l2⟩ := least_of (h.ne x hx)
  refine ⟨(nextM x 0).1, List.mem_map.2 ⟨x, List.mem_flatMap.2 ⟨(nextM x 0).1, List.mem_range.2 (nextM_lt x 0), List.mem_filter.2 ⟨hx, by simp⟩⟩, rfl⟩, ?_, fun s hs => h.same x hx _ _ l1 hxc s hs⟩
  apply Classical.byContradiction
  intro hn
  have := l2 c (by omega)
  rw [hxc] at this; cases this
theorem filter_one (k : Nat) : ∀ n, ((List.range n).filter fun b => k == b).length = if k < n then 1 else 0
  | 0 => rfl
  | n + 1 => by
    rw [List.range_succ, List.filter_append, List.length_append, filter_one k n, List.filter_cons, List.filter_nil]
    cases hb : (k == n) with
    | true =>
      have h := beq_iff_eq.1 hb
      subst h
      simp
    | false =>
      have h : k ≠ n := fun h => by rw [h] at hb; simp at hb
      rw [if_neg (show ¬ (false = true) by decide)]
      by_cases h2 : k < n
      · rw [if_pos h2, if_pos (show k < n + 1 by omega)]; rfl
      · rw [if_neg h2, if_neg (show ¬ k < n + 1 by omega)]; rfl
theorem reps_len (sets : List (BitVec 256)) : (atomsM sets).length ≤ 256 := by
  have h := (part_ok sets).len
  have key : ∀ (bl : List (BitVec 256)), ((List.range 256).flatMap (atomsAt bl)).length = bl.length := by
    intro bl
    induction bl with
    | nil => 
      have : ∀ l : List Nat, l.flatMap (atomsAt []) = [] := fun l => by simp [atomsAt]
      rw [this]
    | cons x bl ih =>
      have e : ∀ l : List Nat, (l.flatMap (atomsAt (x :: bl))).length = (l.flatMap (atomsAt bl)).length + (l.filter fun b => (nextM x 0).1 == b).length := by
        intro l
        induction l with
        | nil => rfl
        | cons b l ih =>
          rw [List.flatMap_cons, List.flatMap_cons, List.length_append, List.length_append, ih, List.filter_cons]
          have : (atomsAt (x :: bl) b).length = (atomsAt bl b).length + if ((nextM x 0).1 == b) = true then 1 else 0 := by
            unfold atomsAt
            rw [List.filter_cons]
            split <;> simp
          rw [this]
          split <;> simp <;> omega
      rw [e, ih, List.length_cons]
      congr 1
      rw [filter_one, if_pos (nextM_lt x 0)]
  unfold atomsM
  rw [key]; exact h
end Go.Proofs.Ytpnnedkpbmilkaa

/- class.Atoms: the walk. -/
set_option linter.unusedVariables false
set_option linter.unusedSimpArgs false
set_option maxRecDepth 100000
namespace Go.VC
theorem ixvN {P : Program} {t len e sz : Nat} {k : IntKind} {i : Int} {cs : Array Value} {S : Nat → Prop} {H : Heap} {K : Value → Prop} (ht : ArrT P t len e sz) (hc : AggT P e sz) (h0 : 0 ≤ i) (h1 : i < len)
    (hk : K (.agg (cs.extract (i.toNat * sz) (i.toNat * sz + sz)))) : VDet P (Instr.index t (.agg cs) (.int k i)) S H K := by
  refine VDet.mk _ (fun w _ => ?_) hk
  cases hi : P.info? e with
  | none => have := ht.size; simp [hi] at this
  | some inf =>
    have hs : inf.size = sz := by have := ht.size; simpa [hi] using this
    simp [Instr.index, asIntOf, run_underlying ht.under, h0, h1, sizeOf, typeInfo, hi, hs, run_partN hc]
/-- New memory with room to grow. -/
theorem StB.newCap {α : Type} {T : Ty α} {e : TypeId} {B : Nat → Prop} {H0 H H' : Heap} {ps : List Pc} {b cap : Nat} {l : List Value} (st : StB B H0 H ps) (hb : b = H.size) (hs : H'.size = b + 1) (hk : Blk H' b e l) (ha : Agr (fun k => k < b) H H') (hl : l.length = cap * T.size) (hm : cap ≤ maxLen) : StB B H0 H' (ps ++ [pS T e (some ⟨b, 0, none⟩) 0 cap []]) := by
  subst hb
  have h := Sl.made (sz := T.size) (n := 0) (cap := cap) (Nat.zero_le _) hk (Nat.zero_le _) hm hl
  rw [Nat.zero_mul, List.take_zero] at h
  refine st.add (ha.mono fun k hk => hk) _ ⟨⟨[], h, rfl⟩, fun k hk => hk.elim⟩ fun k hk => ?_
  rcases hk with ⟨o, n', c, h⟩ | h
  · cases h; omega
  · exact h.elim
end Go.VC
namespace Go.Proofs.Ytpnnedkpbmilkaa
open Go.VC

theorem cutB_len (s b : BitVec 256) : (cutB s b).length ≤ 2 := Nat.le_trans (List.length_filter_le _ _) (Nat.le_refl 2)
theorem partB_len (s : BitVec 256) : ∀ bl : List (BitVec 256), (bl.flatMap (cutB s)).length ≤ 2 * bl.length
  | [] => Nat.le_refl _
  | b :: bl => by
    have h1 := partB_len s bl
    have h2 := cutB_len s b
    rw [List.flatMap_cons, List.length_append, List.length_cons]; omega
theorem take_flat {α β : Type} (f : α → List β) {l : List α} {k : Nat} {x : α} (h : l[k]? = some x) : (l.take (k + 1)).flatMap f = (l.take k).flatMap f ++ f x := by
  rw [take_succ_snoc h, List.flatMap_append]; simp
theorem blocks_succ {sets : List (BitVec 256)} {k : Nat} {s : BitVec 256} (h : sets[k]? = some s) : blocksM (sets.take (k + 1)) = (blocksM (sets.take k)).flatMap (cutB s) := by
  unfold blocksM
  rw [take_succ_snoc h, List.foldl_append]; rfl
theorem zero2 : (Try.prog.info? 143).bind (·.zero) = some (.agg #[.int .u64 0, .int .u64 0, .int .u64 0, .int .u64 0, .int .u64 0, .int .u64 0, .int .u64 0, .int .u64 0]) := by kernel_rfl
theorem fill2 (x y : BitVec 256) : Instr.fill (fun i => some (i * 4, 4)) (Value.agg #[.int .u64 0, .int .u64 0, .int .u64 0, .int .u64 0, .int .u64 0, .int .u64 0, .int .u64 0, .int .u64 0]).cells [(0, setV x), (1, setV y)] = some (setL x ++ setL y).toArray := by
  unfold setV setL
  generalize wd x 0 = a0
  generalize wd x 1 = a1
  generalize wd x 2 = a2
  generalize wd x 3 = a3
  generalize wd y 0 = b0
  generalize wd y 1 = b1
  generalize wd y 2 = b2
  generalize wd y 3 = b3
  simp [Instr.fill, Value.cells]
theorem spliceS (s : BitVec 256) : splice (setL 0) 0 (setL s) = setL s := by simp [splice, setL]

set_option maxHeartbeats 8000000 in
theorem clsAtoms_c {S : Nat → Prop} {H : Heap} {sa : Option Addr} {sc : Nat} {sets : List (BitVec 256)} (hS : ∀ k, S k → k < H.size) (h : SlD tSet S H sa sc sets) (hsl : sets.length ≤ 1048576) :
    FnOk Try.prog 85 #[.slice sa sets.length sc] H fun v H' => Agr (Old H) H H' ∧ ∃ a cap, v = .slice a (atomsM sets).length cap ∧ SlD tSet (Old H') H' a cap (atomsM sets) := by
  refine FnOk.of_vc Try.func85 rfl (Try.call85 _) ?_
  (conv => whnf); refine pures (span_p 0 255 (by decide) (by decide) H) fun H1 ha1 => ?_
  rw [spanS_full]
  have st1 := (St.nil H).call ha1
  (conv => whnf); refine vbuild1 sl29 (setL (BitVec.allOnes 256)) rfl rfl (by decide) (by decide) ?_
  intro b2 H2 hb2 hs2 hk2 ha2
  have st2 := st1.new (T := tSet) (n := 1) (xs := [BitVec.allOnes 256]) hb2 hs2 hk2 ha2 (Ty.reps_one rfl) rfl (by decide)
  (conv => whnf)
  refine VLoop.mk [3, 21] (fun x : Nat × List (BitVec 256) × Option Addr × Nat => match x with | (k, bl, a, c) => [.slice a bl.length c, .int .i64 (k : Int)])
    (fun x H3 => x.1 ≤ sets.length ∧ x.2.1 = blocksM (sets.take x.1) ∧ St H H3 [pS tSet 41 x.2.2.1 x.2.1.length x.2.2.2 x.2.1]) (fun x _ => sets.length - x.1) ?_ ?_
  · (conv => whnf)
    exact ⟨(0, [BitVec.allOnes 256], some ⟨b2, 0, none⟩, 1), rfl, by simp, rfl, st2⟩
  · rintro ⟨k, bl, a3, c3⟩ H3 junk ⟨hk, hbl, st3⟩
    simp only at hk hbl st3
    have hpo := part_ok (sets.take k)
    rw [← hbl] at hpo
    have hlen := hpo.len
    (conv => whnf); refine VIte.mk (fun hz => ?_) (fun hz => ?_) <;> simp only [decide_eq_true_eq, decide_eq_false_iff_not] at hz
    · obtain ⟨s, hs⟩ := get_some (l := sets) (k := k) (by omega)
      have hsucc := blocks_succ hs
      rw [← hbl] at hsucc
      (conv => whnf); refine ixr (i := k) sl29 (h.frame (st3.old.mono hS)) hs rfl ?_
      rintro b4 o4 cs4 hSb4 hcells4 rfl
      (conv => whnf); refine ldN (cs := setL s) ag41 hcells4 trivial ?_
      (conv => whnf); refine valloc (setV 0) (setL 0) rfl rfl ?_
      intro p5 H5 hp5 hs5 hb5 ha5
      have st5 := st3.box hp5 hs5 hb5 ha5
      (conv => whnf); refine stNB (cs := setL s) st5 1 rfl rfl (show 0 + 4 ≤ 4 by decide) rfl fun H6 st6 => ?_
      rw [spliceS] at st6
      (conv => whnf)
      refine VLoop.mk [6, 27] (fun x : Nat × List (BitVec 256) × Option Addr × Nat => match x with | (j, nx, a, c) => [.slice a nx.length c, .int .i64 (j : Int)])
        (fun x H7 => x.1 ≤ bl.length ∧ x.2.1 = (bl.take x.1).flatMap (cutB s) ∧ St H H7 [pS tSet 41 a3 bl.length c3 bl, pB 41 p5 (setL s), pS tSet 41 x.2.2.1 x.2.1.length x.2.2.2 x.2.1]) (fun x _ => bl.length - x.1) ?_ ?_
      · (conv => whnf)
        exact ⟨(0, [], none, 0), rfl, by simp, rfl, StB.nils st6 tSet 41⟩
      · rintro ⟨j, nx, a7, c7⟩ H7 junk7 ⟨hj, hnx, st7⟩
        simp only at hj hnx st7
        (conv => whnf); refine VIte.mk (fun hz2 => ?_) (fun hz2 => ?_) <;> simp only [decide_eq_true_eq, decide_eq_false_iff_not] at hz2
        · obtain ⟨b, hb⟩ := get_some (l := bl) (k := j) (by omega)
          have hnl := partB_len s (bl.take j)
          rw [← hnx, List.length_take] at hnl
          (conv => whnf); refine ixO (j := j) sl29 st7 0 rfl hb rfl fun b8 o8 cs8 hO8 hc8 hr8 => ?_
          obtain rfl := hr8
          (conv => whnf); refine ldN (cs := setL b) ag41 hc8 trivial ?_
          (conv => whnf); refine valloc (setV 0) (setL 0) rfl rfl ?_
          intro p9 H9 hp9 hs9 hb9 ha9
          have st9 := st7.box hp9 hs9 hb9 ha9
          (conv => whnf); refine stNB (cs := setL b) st9 3 rfl rfl (show 0 + 4 ≤ 4 by decide) rfl fun H10 st10 => ?_
          rw [spliceS] at st10
          (conv => whnf); refine VDraw.held (Old H10) 99 (sq [0,1,3,4,7] (.f 2 (.f 5 (sq [6] .e)))) rfl (by kernel_rfl) ?_
          have q5 := st10.blk 1 rfl
          have q9 := st10.blk 3 rfl
          (conv => whnf); refine ldN (cs := setL b) ag41 (q9.cells fun j v hv => by rw [Nat.zero_add]; exact hv) q9.lt ?_
          (conv => whnf); refine ldN (cs := setL s) ag41 (q5.cells fun j v hv => by rw [Nat.zero_add]; exact hv) q5.lt ?_
          (conv => whnf); refine ldN (cs := setL b) ag41 (q9.cells fun j v hv => by rw [Nat.zero_add]; exact hv) q9.lt ?_
          (conv => whnf); refine ldN (cs := setL s) ag41 (q5.cells fun j v hv => by rw [Nat.zero_add]; exact hv) q5.lt ?_
          (conv => whnf); refine pures (meet_c b s H10) fun H11 ha11 => ?_
          have st11 := st10.call ha11
          refine ⟨ha11, ?_⟩
          (conv => whnf); refine pures (minus_c b s H11) fun H12 ha12 => ?_
          have st12 := st11.call ha12
          refine ⟨ha11.trans (ha12.mono fun k hk => old_lt ha11 hk), ?_⟩
          (conv => whnf); refine vbuildA ar143 _ zero2 (setL (b &&& s) ++ setL (b &&& ~~~s)) (fill2 _ _) ?_
          have hcut : cutB s b = [b &&& s, b &&& ~~~s].filter fun x => !decide (x = 0) := rfl
          generalize b &&& s = x0 at *
          generalize b &&& ~~~s = x1 at *
          (conv => whnf)
          refine VLoop.mk [6, 38] (fun x : Nat × List (BitVec 256) × Option Addr × Nat => match x with | (i, nx, a, c) => [.slice a nx.length c, .int .i64 (i : Int)])
            (fun x H13 => x.1 ≤ 2 ∧ x.2.1 = nx ++ ([x0, x1].take x.1).filter (fun x => !decide (x = 0)) ∧ x.2.1.length ≤ nx.length + x.1 ∧ St H H13 [pS tSet 41 a3 bl.length c3 bl, pB 41 p5 (setL s), pS tSet 41 x.2.2.1 x.2.1.length x.2.2.2 x.2.1, pB 41 p9 (setL b)]) (fun x _ => 2 - x.1) ?_ ?_
          · (conv => whnf)
            exact ⟨(0, nx, a7, c7), rfl, by simp, by simp, by simp, st12⟩
          · rintro ⟨i, ny, a13, c13⟩ H13 junk13 ⟨hi, hny, hnyl, st13⟩
            simp only at hi hny hnyl st13
            (conv => whnf); refine VIte.mk (fun hz3 => ?_) (fun hz3 => ?_) <;> simp only [decide_eq_true_eq, decide_eq_false_iff_not] at hz3
            · have hi2 : i = 0 ∨ i = 1 := by omega
              obtain ⟨x, hx⟩ : ∃ x, [x0, x1][i]? = some x := get_some (by simp; omega)
              have e : Value.agg (((setL x0 ++ setL x1).toArray).extract (((i : Nat) : Int).toNat * 4) (((i : Nat) : Int).toNat * 4 + 4)) = setV x := by
                rcases hi2 with rfl | rfl <;> cases hx <;> rfl
              have hnext : nx ++ ([x0, x1].take (i + 1)).filter (fun x => !decide (x = 0)) = ny ++ [x].filter (fun x => !decide (x = 0)) := by
                rw [hny, take_succ_snoc hx, List.filter_append, List.append_assoc]
              (conv => whnf); refine VSeq.run ?_
              (conv => whnf); refine ixvN (i := (i : Int)) ar143 ag41 (by omega) (show (i : Int) < ((2 : Nat) : Int) by omega) ?_
              rw [e]
              (conv => whnf); refine valloc (setV 0) (setL 0) rfl rfl ?_
              intro p14 H14 hp14 hs14 hb14 ha14
              have st14 := st13.box hp14 hs14 hb14 ha14
              (conv => whnf); refine stNB (cs := setL x) st14 4 rfl rfl (show 0 + 4 ≤ 4 by decide) rfl fun H15 st15 => ?_
              rw [spliceS] at st15
              have q15 := st15.blk 4 rfl
              (conv => whnf); refine ldN (cs := setL x) ag41 (q15.cells fun j v hv => by rw [Nat.zero_add]; exact hv) trivial ?_
              (conv => whnf); refine vbuildA ar41 (setV 0) rfl (setL 0) rfl ?_
              (conv => whnf); refine set_neq x 0 ?_
              by_cases hx0 : x = 0
              · have d : (!decide (x = 0)) = false := by rw [decide_eq_true hx0]; rfl
                rw [d]
                have hf : [x].filter (fun x => !decide (x = 0)) = [] := List.filter_cons_of_neg (p := fun x => !decide (x = 0)) (by rw [d]; decide)
                rw [hf, List.append_nil] at hnext
                (conv => whnf); rw [w64 (x := (i : Int) + 1) (by omega) (by omega)]
                refine ⟨rfl, (i + 1, ny, a13, c13), by simp, ⟨by simp only; omega, hnext.symm, by simp only; omega, ?_⟩, by simp only; omega⟩
                exact st15.pick [0, 1, 2, 3] (by decide)
              · have d : (!decide (x = 0)) = true := by rw [decide_eq_false hx0]; rfl
                rw [d]
                have hf : [x].filter (fun x => !decide (x = 0)) = [x] := List.filter_cons_of_pos (p := fun x => !decide (x = 0)) d
                rw [hf] at hnext
                (conv => whnf); refine ldN (cs := setL x) ag41 (q15.cells fun j v hv => by rw [Nat.zero_add]; exact hv) trivial ?_
                (conv => whnf); refine vbuild1 sl29 (setL x) rfl rfl (by decide) (by decide) ?_
                intro q16 H16 hq16 hs16 hb16 ha16
                have st16 := st15.skip hq16 ha16
                (conv => whnf); refine appO (ys := [x]) (ds := setL x) st16 2 sl29 rfl (hb16.cells fun j v hv => by rw [Nat.zero_add]; exact hv) (Ty.reps_one rfl) rfl (by simp [setL, Value.oneCell']) (by simp only [List.length_singleton]; omega) (by decide) fun a' c' H17 st17 _ => ?_
                (conv => whnf); rw [w64 (x := (i : Int) + 1) (by omega) (by omega)]
                refine ⟨rfl, (i + 1, ny ++ [x], a', c'), by simp, ⟨by simp only; omega, hnext.symm, by simp only [List.length_append, List.length_singleton]; omega, ?_⟩, by simp only; omega⟩
                simp only [List.length_append]
                exact st17.pick [0, 1, 2, 3] (by decide)
            · obtain rfl : i = 2 := by omega
              have hnb : ny = (bl.take (j + 1)).flatMap (cutB s) := by
                rw [take_flat (cutB s) hb, ← hnx, hny, hcut]; rfl
              (conv => whnf); rw [w64 (x := (j : Int) + 1) (by omega) (by omega)]
              refine ⟨rfl, (j + 1, ny, a13, c13), by simp, ⟨by simp only; omega, hnb, ?_⟩, by simp only; omega⟩
              exact st13.pick [0, 1, 2] (by decide)
        · obtain rfl : j = bl.length := by omega
          rw [List.take_length] at hnx
          (conv => whnf); rw [w64 (x := (k : Int) + 1) (by omega) (by omega)]
          refine ⟨rfl, (k + 1, nx, a7, c7), by simp, ⟨by simp only; omega, by simp only; rw [hsucc, hnx], ?_⟩, by simp only; omega⟩
          exact st7.pick [2] (by decide)
    · obtain rfl : k = sets.length := by omega
      rw [List.take_length] at hbl hpo
      have hone : ∀ x : BitVec 256, ((nextM x 0).1 : Int) = ((nextM x 0).1 : Int) := fun _ => rfl
      (conv => whnf); refine vmake sl29 (by omega) (by omega) (by omega) (by omega) ?_
      intro p5 H5 hp5 hs5 hb5 ha5
      rw [Int.toNat_natCast] at hb5
      rw [Int.toNat_natCast, Int.toNat_zero]
      have st5 := st3.newCap (T := tSet) (cap := bl.length) hp5 hs5 hb5 ha5 (by simp [tSet]) (by unfold maxLen; omega)
      have hrl := reps_len sets
      (conv => whnf)
      refine VLoop.mk [11, 55] (fun x : Nat × List (BitVec 256) × Option Addr × Nat => match x with | (b, out, a, c) => [.slice a out.length c, .int .i64 (b : Int)])
        (fun x H6 => x.1 ≤ 256 ∧ x.2.1 = (List.range x.1).flatMap (atomsAt bl) ∧ St H H6 [pS tSet 41 a3 bl.length c3 bl, pS tSet 41 x.2.2.1 x.2.1.length x.2.2.2 x.2.1]) (fun x _ => 256 - x.1) ?_ ?_
      · (conv => whnf)
        exact ⟨(0, [], some ⟨p5, 0, none⟩, bl.length), rfl, by simp, rfl, st5⟩
      · rintro ⟨b, out, a6, c6⟩ H6 junk6 ⟨hb, hout, st6⟩
        simp only at hb hout st6
        have hol : out.length ≤ b * 256 := by
          rw [hout]
          clear hout
          induction b with
          | zero => simp
          | succ b ih =>
            have h1 := ih (by omega)
            have h2 : (atomsAt bl b).length ≤ bl.length := List.length_filter_le _ _
            rw [List.range_succ, List.flatMap_append, List.length_append]
            simp only [List.flatMap_cons, List.flatMap_nil, List.append_nil]
            omega
        (conv => whnf); refine VIte.mk (fun hz2 => ?_) (fun hz2 => ?_) <;> simp only [decide_eq_true_eq, decide_eq_false_iff_not] at hz2
        · have hnext : (List.range (b + 1)).flatMap (atomsAt bl) = out ++ atomsAt bl b := by
            rw [hout, List.range_succ, List.flatMap_append]; simp
          (conv => whnf)
          refine VLoop.mk [11, 60] (fun x : Nat × List (BitVec 256) × Option Addr × Nat => match x with | (j, o, a, c) => [.slice a o.length c, .int .i64 (j : Int)])
            (fun x H7 => x.1 ≤ bl.length ∧ x.2.1 = out ++ (bl.take x.1).filter (fun s => (nextM s 0).1 == b) ∧ x.2.1.length ≤ out.length + x.1 ∧ St H H7 [pS tSet 41 a3 bl.length c3 bl, pS tSet 41 x.2.2.1 x.2.1.length x.2.2.2 x.2.1]) (fun x _ => bl.length - x.1) ?_ ?_
          · (conv => whnf)
            exact ⟨(0, out, a6, c6), rfl, by simp, by simp, by simp, st6⟩
          · rintro ⟨j, o, a7, c7⟩ H7 junk7 ⟨hj, ho, hoL, st7⟩
            simp only at hj ho hoL st7
            (conv => whnf); refine VIte.mk (fun hz3 => ?_) (fun hz3 => ?_) <;> simp only [decide_eq_true_eq, decide_eq_false_iff_not] at hz3
            · obtain ⟨x, hx⟩ := get_some (l := bl) (k := j) (by omega)
              have hnx : out ++ (bl.take (j + 1)).filter (fun s => (nextM s 0).1 == b) = o ++ [x].filter (fun s => (nextM s 0).1 == b) := by
                rw [ho, take_succ_snoc hx, List.filter_append, List.append_assoc]
              (conv => whnf); refine VSeq.run ?_
              (conv => whnf); refine ixO (j := j) sl29 st7 0 rfl hx rfl fun b8 o8 cs8 hO8 hc8 hr8 => ?_
              obtain rfl := hr8
              (conv => whnf); refine ldN (cs := setL x) ag41 hc8 trivial ?_
              (conv => whnf); refine valloc (setV 0) (setL 0) rfl rfl ?_
              intro p9 H9 hp9 hs9 hb9 ha9
              have st9 := st7.box hp9 hs9 hb9 ha9
              (conv => whnf); refine stNB (cs := setL x) st9 2 rfl rfl (show 0 + 4 ≤ 4 by decide) rfl fun H10 st10 => ?_
              rw [spliceS] at st10
              (conv => whnf); refine ldN (cs := setL x) ag41 ((st10.blk 2 rfl).cells fun j v hv => by rw [Nat.zero_add]; exact hv) trivial ?_
              (conv => whnf); refine pures (next_p x 0 (by decide) H10) fun H11 ha11 => ?_
              have st11 := st10.call ha11
              have q11 := st11.blk 2 rfl
              have hn8 := nextM_lt x 0
              (conv => whnf); rw [w64 (x := ((nextM x 0).1 : Int)) (by omega) (by omega)]
              cases hd : ((nextM x 0).1 == b) with
              | false =>
                have d : (((nextM x 0).1 : Int) == (b : Int)) = false := by
                  rw [beq_eq_false_iff_ne] at hd ⊢; omega
                have hf : [x].filter (fun s => (nextM s 0).1 == b) = [] := List.filter_cons_of_neg (p := fun s => (nextM s 0).1 == b) (by rw [hd]; decide)
                rw [hf, List.append_nil] at hnx
                (conv => whnf); rw [d]
                (conv => whnf); rw [w64 (x := (j : Int) + 1) (by omega) (by omega)]
                refine ⟨rfl, (j + 1, o, a7, c7), by simp, ⟨by simp only; omega, hnx.symm, by simp only; omega, ?_⟩, by simp only; omega⟩
                exact st11.pick [0, 1] (by decide)
              | true =>
                have d : (((nextM x 0).1 : Int) == (b : Int)) = true := by
                  rw [beq_iff_eq] at hd ⊢; omega
                have hf : [x].filter (fun s => (nextM s 0).1 == b) = [x] := List.filter_cons_of_pos (p := fun s => (nextM s 0).1 == b) hd
                rw [hf] at hnx
                (conv => whnf); rw [d]
                (conv => whnf); refine ldN (cs := setL x) ag41 (q11.cells fun j v hv => by rw [Nat.zero_add]; exact hv) trivial ?_
                (conv => whnf); refine vbuild1 sl29 (setL x) rfl rfl (by decide) (by decide) ?_
                intro q12 H12 hq12 hs12 hb12 ha12
                have st12 := st11.skip hq12 ha12
                (conv => whnf); refine appO (ys := [x]) (ds := setL x) st12 1 sl29 rfl (hb12.cells fun j v hv => by rw [Nat.zero_add]; exact hv) (Ty.reps_one rfl) rfl (by simp [setL, Value.oneCell']) (by simp only [List.length_singleton]; omega) (by decide) fun a' c' H13 st13 _ => ?_
                (conv => whnf); rw [w64 (x := (j : Int) + 1) (by omega) (by omega)]
                refine ⟨rfl, (j + 1, o ++ [x], a', c'), by simp, ⟨by simp only; omega, hnx.symm, by simp only [List.length_append, List.length_singleton]; omega, ?_⟩, by simp only; omega⟩
                simp only [List.length_append]
                exact st13.pick [0, 1] (by decide)
            · obtain rfl : j = bl.length := by omega
              rw [List.take_length] at ho
              (conv => whnf); rw [w64 (x := (b : Int) + 1) (by omega) (by omega)]
              exact ⟨rfl, (b + 1, o, a7, c7), by simp, ⟨by simp only; omega, by simp only; rw [hnext, ho]; rfl, st7⟩, by simp only; omega⟩
        · obtain rfl : b = 256 := by omega
          have hfin : out = atomsM sets := by rw [hout, hbl]; rfl
          have hv := st6.view 1 rfl
          subst hfin
          (conv => whnf)
          exact ⟨st6.old, _, _, rfl, hv⟩
end Go.Proofs.Ytpnnedkpbmilkaa
