/- Parts of the proof: PAtm, PDet3, PDet4, PDSt, PDet5, PDFi, PDAd, PDet6, PDet7, PTabs -/
import Derived.Test.YthomdogheamfpaaDoorKS4
import Derived.Test.YthomdogheamfpaaDoorKS2
import Derived.Test.YthomdogheamfpaaDoorKS3
import Derived.Test.YthomdogheamfpaaDoorKS1
/- class.Not, class.Minus, class.Atoms. -/
set_option linter.unusedVariables false
set_option linter.unusedSimpArgs false
set_option maxRecDepth 100000
namespace Go.VC
theorem xor_ones {x : Nat} (h : x < 18446744073709551616) : 18446744073709551615 ^^^ x = 18446744073709551615 - x := by
  have h1 : (BitVec.ofNat 64 x ^^^ BitVec.allOnes 64).toNat = (~~~(BitVec.ofNat 64 x)).toNat := by rw [BitVec.xor_allOnes]
  rw [BitVec.toNat_xor, BitVec.toNat_not, BitVec.toNat_ofNat, BitVec.toNat_allOnes, Nat.mod_eq_of_lt (by simpa using h), Nat.xor_comm] at h1
  simpa using h1
theorem vxor1 {P : Program} {x : Nat} {S : Nat → Prop} {H : Heap} {K : Value → Prop} (hx : x < 18446744073709551616) (k : K (.int .u64 ((18446744073709551615 - x : Nat) : Int))) : VDet P (Op.unary .xor (.int .u64 (x : Int))) S H K := by
  refine VDet.mk _ (fun w _ => ?_) k
  have h1 : IntKind.u64.max = 18446744073709551615 := rfl
  have h2 : IntKind.u64.signed = false := rfl
  have e1 : (BitVec.ofInt IntKind.u64.bits (18446744073709551615 : Int) ^^^ BitVec.ofInt IntKind.u64.bits (x : Int)).toNat = 18446744073709551615 - x := by
    show (BitVec.ofInt 64 ((18446744073709551615 : Nat) : Int) ^^^ BitVec.ofInt 64 (x : Int)).toNat = _
    rw [BitVec.ofInt_natCast, BitVec.ofInt_natCast, BitVec.toNat_xor, BitVec.toNat_ofNat, BitVec.toNat_ofNat, Nat.mod_eq_of_lt (a := x) hx]
    exact xor_ones hx
  have e2 : IntKind.wrap .u64 ((18446744073709551615 - x : Nat) : Int) = ((18446744073709551615 - x : Nat) : Int) := wrap_in ⟨by show (0 : Int) ≤ _; omega, by rw [h1]; omega⟩
  show (pure (Value.int .u64 (IntKind.wrap .u64 ((BitVec.ofInt IntKind.u64.bits (if IntKind.u64.signed = true then (-1 : Int) else IntKind.u64.max) ^^^ BitVec.ofInt IntKind.u64.bits (x : Int)).toNat : Int))) : Sem Value).run P w = _
  rw [h2, h1]
  simp only [Bool.false_eq_true, if_false]
  rw [e1, e2]
  rfl
end Go.VC
namespace Go.Proofs.YthomdogheamfpaaDoor
open Go.VC

theorem wd_not (a : BitVec 256) (i : Nat) (hi : i < 4) : wd (~~~a) i = 18446744073709551615 - wd a i := by
  have ha := a.isLt
  unfold wd
  rw [BitVec.toNat_not]
  match i, hi with
  | 0, _ => simp only [Nat.reduceMul, Nat.reducePow] at *; omega
  | 1, _ => simp only [Nat.reduceMul, Nat.reducePow] at *; omega
  | 2, _ => simp only [Nat.reduceMul, Nat.reducePow] at *; omega
  | 3, _ => simp only [Nat.reduceMul, Nat.reducePow] at *; omega
theorem not_c (a : BitVec 256) (H : Heap) : Pure Tryd.prog 97 #[setV a] H (setV (~~~a)) := by
  have hw : ∀ i, wd a i < 18446744073709551616 := fun i => wd_lt a i
  refine FnOk.of_vc Tryd.func97 rfl (Tryd.call97 _) ?_
  (conv => whnf); refine vbox (setL a) rfl ?_
  intro p H1 hp hs1 hb1 ha1
  (conv => whnf); refine valloc (setV 0) (setL 0) rfl rfl ?_
  intro r H3 hr hs3 hb3 ha3
  replace hb1 := hb1.agr ha3 (show p < r by omega)
  (conv => whnf); refine ixa ar73 (by decide) (by decide) ?_
  (conv => whnf); refine ld1 ct69 ((hb1.cell _).trans rfl) trivial ?_
  (conv => whnf); refine vxor1 (hw _) ?_
  (conv => whnf); refine ixa ar73 (by decide) (by decide) ?_
  (conv => whnf); refine ld1 ct69 ((hb1.cell _).trans rfl) trivial ?_
  (conv => whnf); refine vxor1 (hw _) ?_
  (conv => whnf); refine ixa ar73 (by decide) (by decide) ?_
  (conv => whnf); refine ld1 ct69 ((hb1.cell _).trans rfl) trivial ?_
  (conv => whnf); refine vxor1 (hw _) ?_
  (conv => whnf); refine ixa ar73 (by decide) (by decide) ?_
  (conv => whnf); refine ld1 ct69 ((hb1.cell _).trans rfl) trivial ?_
  (conv => whnf); refine vxor1 (hw _) ?_
  rw [← wd_not a 0 (by decide), ← wd_not a 1 (by decide), ← wd_not a 2 (by decide), ← wd_not a 3 (by decide)]
  (conv => whnf); refine vbuildA ar73 (setV 0) rfl (setL (~~~a)) rfl ?_
  (conv => whnf); refine VC.stN rfl hb3 (show 0 + 4 ≤ 4 by decide) rfl ?_
  intro H4 hb4 ha4 hs4
  (conv => whnf); refine ldN (cs := setL (~~~a)) ag73 (hb4.cells (fun j v hv => by simpa [splice, setL] using hv)) trivial ?_
  exact ⟨rfl, fun k hk => by rw [ha4 k (by omega), ha3 k (by omega), ha1 k (by omega)]⟩
theorem minus_c (a b : BitVec 256) (H : Heap) : Pure Tryd.prog 110 #[setV a, setV b] H (setV (a &&& ~~~b)) := by
  refine FnOk.of_vc Tryd.func110 rfl (Tryd.call110 _) ?_
  (conv => whnf); refine vbox (setL a) rfl ?_
  intro p H1 hp hs1 hb1 ha1
  have st1 := (St.nil H).box hp hs1 hb1 ha1
  (conv => whnf); refine vbox (setL b) rfl ?_
  intro q H2 hq hs2 hb2 ha2
  have st2 := st1.box hq hs2 hb2 ha2
  (conv => whnf); refine valloc (setV 0) (setL 0) rfl rfl ?_
  intro r H3 hr hs3 hb3 ha3
  have st3 := st2.box hr hs3 hb3 ha3
  (conv => whnf); refine VDraw.held (Old H3) 4 (sq [0,1] (.f 2 (.f 3 (.f 4 .e)))) rfl (by kernel_rfl) ?_
  (conv => whnf); refine ldN (cs := setL a) ag73 ((st3.blk 0 rfl).cells fun j v hv => by rw [Nat.zero_add]; exact hv) (st3.blk 0 rfl).lt ?_
  (conv => whnf); refine ldN (cs := setL b) ag73 ((st3.blk 1 rfl).cells fun j v hv => by rw [Nat.zero_add]; exact hv) (st3.blk 1 rfl).lt ?_
  (conv => whnf); refine pures (not_c b H3) fun H4 ha4 => ?_
  have st4 := st3.call ha4
  refine ⟨ha4, ?_⟩
  (conv => whnf); refine pures (meet_c a (~~~b) H4) fun H5 ha5 => ?_
  have st5 := st4.call ha5
  refine ⟨ha4.trans (ha5.mono fun k hk => old_lt ha4 hk), ?_⟩
  (conv => whnf); refine stNB (cs := setL (a &&& ~~~b)) st5 2 rfl rfl (show 0 + 4 ≤ 4 by decide) rfl fun H6 st6 => ?_
  (conv => whnf); refine ldN (cs := setL (a &&& ~~~b)) ag73 ((st6.blk 2 rfl).cells (fun j v hv => by simpa [splice, setL] using hv)) trivial ?_
  exact ⟨rfl, st6.old⟩
end Go.Proofs.YthomdogheamfpaaDoor

/- class.Atoms: the plain law. -/
set_option linter.unusedVariables false
set_option linter.unusedSimpArgs false
set_option maxRecDepth 100000
namespace Go.Proofs.YthomdogheamfpaaDoor
open Go.VC

/-- The two parts of b, without what is empty. -/
def cutB (s b : BitVec 256) : List (BitVec 256) := [b &&& s, b &&& ~~~s].filter fun x => !decide (x = 0)
def partB (bl : List (BitVec 256)) (s : BitVec 256) : List (BitVec 256) := bl.flatMap (cutB s)
def blocksM (sets : List (BitVec 256)) : List (BitVec 256) := sets.foldl partB [BitVec.allOnes 256]
def atomsAt (bl : List (BitVec 256)) (b : Nat) : List (BitVec 256) := bl.filter fun s => (nextM s 0).1 == b
def atomsM (sets : List (BitVec 256)) : List (BitVec 256) := (List.range 256).flatMap (atomsAt (blocksM sets))
def repsM (sets : List (BitVec 256)) : List Nat := (atomsM sets).map fun c => (nextM c 0).1

theorem bits_zero (x : BitVec 256) (h : ∀ b, b < 256 → x.getLsbD b = false) : x = 0 := by
  apply BitVec.eq_of_getLsbD_eq
  intro i hi
  rw [h i hi]; simp
theorem least_of {x : BitVec 256} (h : x ≠ 0) : x.getLsbD (nextM x 0).1 = true ∧ ∀ b, b < (nextM x 0).1 → x.getLsbD b = false := by
  unfold nextM
  cases hf : (List.range 256).find? fun b => decide (0 ≤ b) && x.getLsbD b with
  | none =>
    exfalso
    apply h
    apply bits_zero
    intro b hb
    have := List.find?_eq_none.1 hf b (List.mem_range.2 hb)
    simpa using this
  | some c =>
    have h1 := List.find?_some hf
    simp only [Nat.zero_le, decide_true, Bool.true_and] at h1
    refine ⟨h1, fun b hb => ?_⟩
    have hc : c < 256 := by simpa using List.mem_of_find?_eq_some hf
    obtain ⟨_, i, hi, hge, hbef⟩ := List.find?_eq_some_iff_getElem.1 hf
    simp only [List.getElem_range] at hge
    subst hge
    have := hbef b hb
    simpa using this
theorem cut_ne (s b : BitVec 256) : ∀ x ∈ cutB s b, x ≠ 0 := fun x hx => by
  have := (List.mem_filter.1 hx).2
  simpa using this
theorem cut_at (s b : BitVec 256) {c : Nat} (h : b.getLsbD c = true) : ∃ x ∈ cutB s b, x.getLsbD c = true := by
  have hc : c < 256 := by
    apply Classical.byContradiction
    intro hn
    rw [BitVec.getLsbD_of_ge _ _ (by omega)] at h; cases h
  have key : ∀ x : BitVec 256, x.getLsbD c = true → x ≠ 0 := fun x hx h0 => by rw [h0] at hx; simp at hx
  cases hs : s.getLsbD c with
  | true =>
    have h1 : (b &&& s).getLsbD c = true := by rw [BitVec.getLsbD_and, h, hs]; rfl
    exact ⟨b &&& s, List.mem_filter.2 ⟨by simp, by rw [decide_eq_false (key _ h1)]; rfl⟩, h1⟩
  | false =>
    have h1 : (b &&& ~~~s).getLsbD c = true := by rw [BitVec.getLsbD_and, BitVec.getLsbD_not, h, hs]; simp [hc]
    exact ⟨b &&& ~~~s, List.mem_filter.2 ⟨by simp, by rw [decide_eq_false (key _ h1)]; rfl⟩, h1⟩
theorem cut_sub (s b : BitVec 256) {x : BitVec 256} (hx : x ∈ cutB s b) {c : Nat} (h : x.getLsbD c = true) : b.getLsbD c = true := by
  have := (List.mem_filter.1 hx).1
  rcases List.mem_cons.1 this with rfl | this
  · rw [BitVec.getLsbD_and, Bool.and_eq_true] at h; exact h.1
  · rw [List.mem_singleton] at this
    subst this
    rw [BitVec.getLsbD_and, Bool.and_eq_true] at h; exact h.1
theorem cut_same (s b : BitVec 256) {x : BitVec 256} (hx : x ∈ cutB s b) {c d : Nat} (h : x.getLsbD c = true) (k : x.getLsbD d = true) : s.getLsbD c = s.getLsbD d := by
  have := (List.mem_filter.1 hx).1
  rcases List.mem_cons.1 this with rfl | this
  · rw [BitVec.getLsbD_and, Bool.and_eq_true] at h k; rw [h.2, k.2]
  · rw [List.mem_singleton] at this
    subst this
    rw [BitVec.getLsbD_and, Bool.and_eq_true, BitVec.getLsbD_not] at h k
    have h2 := h.2; have k2 := k.2
    simp only [Bool.and_eq_true, Bool.not_eq_true'] at h2 k2
    rw [h2.2, k2.2]
theorem count_pos {x : BitVec 256} (h : x ≠ 0) : 1 ≤ countM x := by
  have h1 := (least_of h).1
  have h2 := nextM_lt x 0
  unfold countM
  exact List.length_pos_of_mem (a := (nextM x 0).1) (List.mem_filter.2 ⟨List.mem_range.2 h2, h1⟩)
theorem filter_two (p q r : Nat → Bool) : ∀ l : List Nat, (∀ c ∈ l, (p c = true ∧ q c = false ∧ r c = true) ∨ (p c = false ∧ q c = true ∧ r c = true) ∨ (p c = false ∧ q c = false ∧ r c = false)) → (l.filter p).length + (l.filter q).length = (l.filter r).length
  | [], _ => rfl
  | c :: l, h => by
    have ih := filter_two p q r l fun d hd => h d (List.mem_cons_of_mem _ hd)
    rcases h c List.mem_cons_self with ⟨h1, h2, h3⟩ | ⟨h1, h2, h3⟩ | ⟨h1, h2, h3⟩ <;> simp only [List.filter_cons, h1, h2, h3, if_true, Bool.false_eq_true, if_false, List.length_cons] <;> omega
theorem count_cut (s b : BitVec 256) : countM (b &&& s) + countM (b &&& ~~~s) = countM b := by
  unfold countM
  refine filter_two _ _ _ _ fun c hc => ?_
  have hc := List.mem_range.1 hc
  have e1 : (b &&& s).getLsbD c = (b.getLsbD c && s.getLsbD c) := BitVec.getLsbD_and
  have e2 : (b &&& ~~~s).getLsbD c = (b.getLsbD c && !s.getLsbD c) := by rw [BitVec.getLsbD_and, BitVec.getLsbD_not]; simp [hc]
  rw [e1, e2]
  cases b.getLsbD c <;> cases s.getLsbD c <;> simp
theorem count_zero : countM 0 = 0 := by
  unfold countM
  simp
theorem cut_sum (s b : BitVec 256) : ((cutB s b).map countM).sum = countM b := by
  rw [← count_cut s b]
  unfold cutB
  have key : ∀ x : BitVec 256, (([x].filter fun x => !decide (x = 0)).map countM).sum = countM x := fun x => by
    by_cases h : x = 0
    · subst h; rw [count_zero]; rfl
    · rw [List.filter_cons_of_pos (by rw [decide_eq_false h]; rfl)]; simp
  rw [show [b &&& s, b &&& ~~~s] = [b &&& s] ++ [b &&& ~~~s] from rfl, List.filter_append, List.map_append, List.sum_append, key, key]
/-- What the blocks of given sets are like. -/
structure PartOk (bl sets : List (BitVec 256)) : Prop where
  ne : ∀ x ∈ bl, x ≠ 0
  all : ∀ c, c < 256 → ∃ x ∈ bl, x.getLsbD c = true
  same : ∀ x ∈ bl, ∀ c d, x.getLsbD c = true → x.getLsbD d = true → ∀ s ∈ sets, s.getLsbD c = s.getLsbD d
  sum : (bl.map countM).sum = 256
theorem PartOk.len {bl sets : List (BitVec 256)} (h : PartOk bl sets) : bl.length ≤ 256 := by
  refine Nat.le_trans ?_ (Nat.le_of_eq h.sum)
  have key : ∀ l : List (BitVec 256), (∀ x ∈ l, x ≠ 0) → l.length ≤ (l.map countM).sum := by
    intro l
    induction l with
    | nil => intro _; exact Nat.le_refl _
    | cons x l ih =>
      intro h
      have := ih fun y hy => h y (List.mem_cons_of_mem _ hy)
      have := count_pos (h x List.mem_cons_self)
      simp only [List.length_cons, List.map_cons, List.sum_cons]; omega
  exact key bl h.ne
theorem PartOk.cut {bl sets : List (BitVec 256)} (h : PartOk bl sets) (s : BitVec 256) : PartOk (partB bl s) (sets ++ [s]) := by
  refine ⟨fun x hx => ?_, fun c hc => ?_, fun x hx c d hxc hxd t ht => ?_, ?_⟩
  · obtain ⟨b, hb, hx⟩ := List.mem_flatMap.1 hx
    exact cut_ne s b x hx
  · obtain ⟨b, hb, hbc⟩ := h.all c hc
    obtain ⟨x, hx, hxc⟩ := cut_at s b hbc
    exact ⟨x, List.mem_flatMap.2 ⟨b, hb, hx⟩, hxc⟩
  · obtain ⟨b, hb, hx⟩ := List.mem_flatMap.1 hx
    rcases List.mem_append.1 ht with ht | ht
    · exact h.same b hb c d (cut_sub s b hx hxc) (cut_sub s b hx hxd) t ht
    · rw [List.mem_singleton] at ht
      subst ht
      exact cut_same t b hx hxc hxd
  · refine Eq.trans ?_ h.sum
    unfold partB
    clear h
    induction bl with
    | nil => rfl
    | cons b bl ih =>
      rw [List.flatMap_cons, List.map_append, List.sum_append, ih, cut_sum, List.map_cons, List.sum_cons]
theorem part_ok (sets : List (BitVec 256)) : PartOk (blocksM sets) sets := by
  have key : ∀ (rest done bl : List (BitVec 256)), PartOk bl done → PartOk (rest.foldl partB bl) (done ++ rest) := by
    intro rest
    induction rest with
    | nil => intro done bl h; simpa using h
    | cons s rest ih =>
      intro done bl h
      have := ih (done ++ [s]) (partB bl s) (h.cut s)
      simpa using this
  refine key sets [] [BitVec.allOnes 256] ⟨fun x hx => ?_, fun c hc => ⟨_, List.mem_singleton.2 rfl, by rw [BitVec.getLsbD_allOnes]; exact decide_eq_true hc⟩, fun x hx c d _ _ s hs => (by cases hs), by kernel_rfl⟩
  rw [List.mem_singleton] at hx
  subst hx
  decide
/-- The least bytes of the atoms: rising; and each byte has one of them, no greater, that no given set tells from it. -/
theorem reps_sorted (sets : List (BitVec 256)) : (repsM sets).Pairwise (· ≤ ·) := by
  unfold repsM atomsM
  rw [List.pairwise_map]
  have hmem : ∀ b x, x ∈ atomsAt (blocksM sets) b → (nextM x 0).1 = b := fun b x hx => by
    have := (List.mem_filter.1 hx).2
    simpa using this
  have key : ∀ l : List Nat, l.Pairwise (· < ·) → (l.flatMap (atomsAt (blocksM sets))).Pairwise fun x y => (nextM x 0).1 ≤ (nextM y 0).1 := by
    intro l
    induction l with
    | nil => intro _; exact List.Pairwise.nil
    | cons b l ih =>
      intro h
      obtain ⟨h1, h2⟩ := List.pairwise_cons.1 h
      rw [List.flatMap_cons, List.pairwise_append]
      refine ⟨?_, ih h2, fun x hx y hy => ?_⟩
      · refine List.pairwise_of_forall_mem_list fun x hx y hy => ?_
        rw [hmem b x hx, hmem b y hy]; exact Nat.le_refl _
      · obtain ⟨b', hb', hy⟩ := List.mem_flatMap.1 hy
        rw [hmem b x hx, hmem b' y hy]
        exact Nat.le_of_lt (h1 b' hb')
  exact key _ List.pairwise_lt_range
theorem reps_lt (sets : List (BitVec 256)) : ∀ r ∈ repsM sets, r < 256 := fun r hr => by
  obtain ⟨x, -, rfl⟩ := List.mem_map.1 hr
  exact nextM_lt x 0
theorem reps_cov (sets : List (BitVec 256)) {c : Nat} (hc : c < 256) : ∃ r ∈ repsM sets, r ≤ c ∧ ∀ s ∈ sets, s.getLsbD r = s.getLsbD c := by
  have h := part_ok sets
  obtain ⟨x, hx, hxc⟩ := h.all c hc
  obtain ⟨l1, l2⟩ := least_of (h.ne x hx)
  refine ⟨(nextM x 0).1, List.mem_map.2 ⟨x, List.mem_flatMap.2 ⟨(nextM x 0).1, List.mem_range.2 (nextM_lt x 0), List.mem_filter.2 ⟨hx, by simp⟩⟩, rfl⟩, ?_, fun s hs => h.same x hx _ _ l1 hxc s hs⟩
  apply Classical.byContradiction
  intro hn
  have := l2 c (by omega)
  rw [hxc] at this; cases this
theorem filter_one (k : Nat) : ∀ n, ((List.range n).filter fun b => k == b).length = if k < n then 1 else 0
  | 0 => rfl
  | n + 1 => by
    rw [List.range_succ, List.filter_append, List.length_append, filter_one k n, List.filter_cons, List.filter_nil]
    cases hb : (k == n) with
    | true =>
      have h := beq_iff_eq.1 hb
      subst h
      simp
    | false =>
      have h : k ≠ n := fun h => by rw [h] at hb; simp at hb
      rw [if_neg (show ¬ (false = true) by decide)]
      by_cases h2 : k < n
      · rw [if_pos h2, if_pos (show k < n + 1 by omega)]; rfl
      · rw [if_neg h2, if_neg (show ¬ k < n + 1 by omega)]; rfl
theorem reps_len (sets : List (BitVec 256)) : (atomsM sets).length ≤ 256 := by
  have h := (part_ok sets).len
  have key : ∀ (bl : List (BitVec 256)), ((List.range 256).flatMap (atomsAt bl)).length = bl.length := by
    intro bl
    induction bl with
    | nil => 
      have : ∀ l : List Nat, l.flatMap (atomsAt []) = [] := fun l => by simp [atomsAt]
      rw [this]
    | cons x bl ih =>
      have e : ∀ l : List Nat, (l.flatMap (atomsAt (x :: bl))).length = (l.flatMap (atomsAt bl)).length + (l.filter fun b => (nextM x 0).1 == b).length := by
        intro l
        induction l with
        | nil => rfl
        | cons b l ih =>
          rw [List.flatMap_cons, List.flatMap_cons, List.length_append, List.length_append, ih, List.filter_cons]
          have : (atomsAt (x :: bl) b).length = (atomsAt bl b).length + if ((nextM x 0).1 == b) = true then 1 else 0 := by
            unfold atomsAt
            rw [List.filter_cons]
            split <;> simp
          rw [this]
          split <;> simp <;> omega
      rw [e, ih, List.length_cons]
      congr 1
      rw [filter_one, if_pos (nextM_lt x 0)]
  unfold atomsM
  rw [key]; exact h
end Go.Proofs.YthomdogheamfpaaDoor

/- class.Atoms: the walk. -/
set_option linter.unusedVariables false
set_option linter.unusedSimpArgs false
set_option maxRecDepth 100000
namespace Go.VC
theorem ixvN {P : Program} {t len e sz : Nat} {k : IntKind} {i : Int} {cs : Array Value} {S : Nat → Prop} {H : Heap} {K : Value → Prop} (ht : ArrT P t len e sz) (hc : AggT P e sz) (h0 : 0 ≤ i) (h1 : i < len)
    (hk : K (.agg (cs.extract (i.toNat * sz) (i.toNat * sz + sz)))) : VDet P (Instr.index t (.agg cs) (.int k i)) S H K := by
  refine VDet.mk _ (fun w _ => ?_) hk
  cases hi : P.info? e with
  | none => have := ht.size; simp [hi] at this
  | some inf =>
    have hs : inf.size = sz := by have := ht.size; simpa [hi] using this
    simp [Instr.index, asIntOf, run_underlying ht.under, h0, h1, sizeOf, typeInfo, hi, hs, run_partN hc]
/-- New memory with room to grow. -/
theorem StB.newCap {α : Type} {T : Ty α} {e : TypeId} {B : Nat → Prop} {H0 H H' : Heap} {ps : List Pc} {b cap : Nat} {l : List Value} (st : StB B H0 H ps) (hb : b = H.size) (hs : H'.size = b + 1) (hk : Blk H' b e l) (ha : Agr (fun k => k < b) H H') (hl : l.length = cap * T.size) (hm : cap ≤ maxLen) : StB B H0 H' (ps ++ [pS T e (some ⟨b, 0, none⟩) 0 cap []]) := by
  subst hb
  have h := Sl.made (sz := T.size) (n := 0) (cap := cap) (Nat.zero_le _) hk (Nat.zero_le _) hm hl
  rw [Nat.zero_mul, List.take_zero] at h
  refine st.add (ha.mono fun k hk => hk) _ ⟨⟨[], h, rfl⟩, fun k hk => hk.elim⟩ fun k hk => ?_
  rcases hk with ⟨o, n', c, h⟩ | h
  · cases h; omega
  · exact h.elim
end Go.VC
namespace Go.Proofs.YthomdogheamfpaaDoor
open Go.VC

theorem cutB_len (s b : BitVec 256) : (cutB s b).length ≤ 2 := Nat.le_trans (List.length_filter_le _ _) (Nat.le_refl 2)
theorem partB_len (s : BitVec 256) : ∀ bl : List (BitVec 256), (bl.flatMap (cutB s)).length ≤ 2 * bl.length
  | [] => Nat.le_refl _
  | b :: bl => by
    have h1 := partB_len s bl
    have h2 := cutB_len s b
    rw [List.flatMap_cons, List.length_append, List.length_cons]; omega
theorem take_flat {α β : Type} (f : α → List β) {l : List α} {k : Nat} {x : α} (h : l[k]? = some x) : (l.take (k + 1)).flatMap f = (l.take k).flatMap f ++ f x := by
  rw [take_succ_snoc h, List.flatMap_append]; simp
theorem blocks_succ {sets : List (BitVec 256)} {k : Nat} {s : BitVec 256} (h : sets[k]? = some s) : blocksM (sets.take (k + 1)) = (blocksM (sets.take k)).flatMap (cutB s) := by
  unfold blocksM
  rw [take_succ_snoc h, List.foldl_append]; rfl
theorem zero2 : (Tryd.prog.info? 195).bind (·.zero) = some (.agg #[.int .u64 0, .int .u64 0, .int .u64 0, .int .u64 0, .int .u64 0, .int .u64 0, .int .u64 0, .int .u64 0]) := by kernel_rfl
theorem fill2 (x y : BitVec 256) : Instr.fill (fun i => some (i * 4, 4)) (Value.agg #[.int .u64 0, .int .u64 0, .int .u64 0, .int .u64 0, .int .u64 0, .int .u64 0, .int .u64 0, .int .u64 0]).cells [(0, setV x), (1, setV y)] = some (setL x ++ setL y).toArray := by
  unfold setV setL
  generalize wd x 0 = a0
  generalize wd x 1 = a1
  generalize wd x 2 = a2
  generalize wd x 3 = a3
  generalize wd y 0 = b0
  generalize wd y 1 = b1
  generalize wd y 2 = b2
  generalize wd y 3 = b3
  simp [Instr.fill, Value.cells]
theorem spliceS (s : BitVec 256) : splice (setL 0) 0 (setL s) = setL s := by simp [splice, setL]

set_option maxHeartbeats 8000000 in
theorem clsAtoms_c {S : Nat → Prop} {H : Heap} {sa : Option Addr} {sc : Nat} {sets : List (BitVec 256)} (hS : ∀ k, S k → k < H.size) (h : SlD tSet S H sa sc sets) (hsl : sets.length ≤ 1048576) :
    FnOk Tryd.prog 76 #[.slice sa sets.length sc] H fun v H' => Agr (Old H) H H' ∧ ∃ a cap, v = .slice a (atomsM sets).length cap ∧ SlD tSet (Old H') H' a cap (atomsM sets) := by
  refine FnOk.of_vc Tryd.func76 rfl (Tryd.call76 _) ?_
  (conv => whnf); refine pures (span_p 0 255 (by decide) (by decide) H) fun H1 ha1 => ?_
  rw [spanS_full]
  have st1 := (St.nil H).call ha1
  (conv => whnf); refine vbuild1 sl83 (setL (BitVec.allOnes 256)) rfl rfl (by decide) (by decide) ?_
  intro b2 H2 hb2 hs2 hk2 ha2
  have st2 := st1.new (T := tSet) (n := 1) (xs := [BitVec.allOnes 256]) hb2 hs2 hk2 ha2 (Ty.reps_one rfl) rfl (by decide)
  (conv => whnf)
  refine VLoop.mk [3, 21] (fun x : Nat × List (BitVec 256) × Option Addr × Nat => match x with | (k, bl, a, c) => [.slice a bl.length c, .int .i64 (k : Int)])
    (fun x H3 => x.1 ≤ sets.length ∧ x.2.1 = blocksM (sets.take x.1) ∧ St H H3 [pS tSet 73 x.2.2.1 x.2.1.length x.2.2.2 x.2.1]) (fun x _ => sets.length - x.1) ?_ ?_
  · (conv => whnf)
    exact ⟨(0, [BitVec.allOnes 256], some ⟨b2, 0, none⟩, 1), rfl, by simp, rfl, st2⟩
  · rintro ⟨k, bl, a3, c3⟩ H3 junk ⟨hk, hbl, st3⟩
    simp only at hk hbl st3
    have hpo := part_ok (sets.take k)
    rw [← hbl] at hpo
    have hlen := hpo.len
    (conv => whnf); refine VIte.mk (fun hz => ?_) (fun hz => ?_) <;> simp only [decide_eq_true_eq, decide_eq_false_iff_not] at hz
    · obtain ⟨s, hs⟩ := get_some (l := sets) (k := k) (by omega)
      have hsucc := blocks_succ hs
      rw [← hbl] at hsucc
      (conv => whnf); refine ixr (i := k) sl83 (h.frame (st3.old.mono hS)) hs rfl ?_
      rintro b4 o4 cs4 hSb4 hcells4 rfl
      (conv => whnf); refine ldN (cs := setL s) ag73 hcells4 trivial ?_
      (conv => whnf); refine valloc (setV 0) (setL 0) rfl rfl ?_
      intro p5 H5 hp5 hs5 hb5 ha5
      have st5 := st3.box hp5 hs5 hb5 ha5
      (conv => whnf); refine stNB (cs := setL s) st5 1 rfl rfl (show 0 + 4 ≤ 4 by decide) rfl fun H6 st6 => ?_
      rw [spliceS] at st6
      (conv => whnf)
      refine VLoop.mk [6, 27] (fun x : Nat × List (BitVec 256) × Option Addr × Nat => match x with | (j, nx, a, c) => [.slice a nx.length c, .int .i64 (j : Int)])
        (fun x H7 => x.1 ≤ bl.length ∧ x.2.1 = (bl.take x.1).flatMap (cutB s) ∧ St H H7 [pS tSet 73 a3 bl.length c3 bl, pB 73 p5 (setL s), pS tSet 73 x.2.2.1 x.2.1.length x.2.2.2 x.2.1]) (fun x _ => bl.length - x.1) ?_ ?_
      · (conv => whnf)
        exact ⟨(0, [], none, 0), rfl, by simp, rfl, StB.nils st6 tSet 73⟩
      · rintro ⟨j, nx, a7, c7⟩ H7 junk7 ⟨hj, hnx, st7⟩
        simp only at hj hnx st7
        (conv => whnf); refine VIte.mk (fun hz2 => ?_) (fun hz2 => ?_) <;> simp only [decide_eq_true_eq, decide_eq_false_iff_not] at hz2
        · obtain ⟨b, hb⟩ := get_some (l := bl) (k := j) (by omega)
          have hnl := partB_len s (bl.take j)
          rw [← hnx, List.length_take] at hnl
          (conv => whnf); refine ixO (j := j) sl83 st7 0 rfl hb rfl fun b8 o8 cs8 hO8 hc8 hr8 => ?_
          obtain rfl := hr8
          (conv => whnf); refine ldN (cs := setL b) ag73 hc8 trivial ?_
          (conv => whnf); refine valloc (setV 0) (setL 0) rfl rfl ?_
          intro p9 H9 hp9 hs9 hb9 ha9
          have st9 := st7.box hp9 hs9 hb9 ha9
          (conv => whnf); refine stNB (cs := setL b) st9 3 rfl rfl (show 0 + 4 ≤ 4 by decide) rfl fun H10 st10 => ?_
          rw [spliceS] at st10
          (conv => whnf); refine VDraw.held (Old H10) 99 (sq [0,1,3,4,7] (.f 2 (.f 5 (sq [6] .e)))) rfl (by kernel_rfl) ?_
          have q5 := st10.blk 1 rfl
          have q9 := st10.blk 3 rfl
          (conv => whnf); refine ldN (cs := setL b) ag73 (q9.cells fun j v hv => by rw [Nat.zero_add]; exact hv) q9.lt ?_
          (conv => whnf); refine ldN (cs := setL s) ag73 (q5.cells fun j v hv => by rw [Nat.zero_add]; exact hv) q5.lt ?_
          (conv => whnf); refine ldN (cs := setL b) ag73 (q9.cells fun j v hv => by rw [Nat.zero_add]; exact hv) q9.lt ?_
          (conv => whnf); refine ldN (cs := setL s) ag73 (q5.cells fun j v hv => by rw [Nat.zero_add]; exact hv) q5.lt ?_
          (conv => whnf); refine pures (meet_c b s H10) fun H11 ha11 => ?_
          have st11 := st10.call ha11
          refine ⟨ha11, ?_⟩
          (conv => whnf); refine pures (minus_c b s H11) fun H12 ha12 => ?_
          have st12 := st11.call ha12
          refine ⟨ha11.trans (ha12.mono fun k hk => old_lt ha11 hk), ?_⟩
          (conv => whnf); refine vbuildA ar195 _ zero2 (setL (b &&& s) ++ setL (b &&& ~~~s)) (fill2 _ _) ?_
          have hcut : cutB s b = [b &&& s, b &&& ~~~s].filter fun x => !decide (x = 0) := rfl
          generalize b &&& s = x0 at *
          generalize b &&& ~~~s = x1 at *
          (conv => whnf)
          refine VLoop.mk [6, 38] (fun x : Nat × List (BitVec 256) × Option Addr × Nat => match x with | (i, nx, a, c) => [.slice a nx.length c, .int .i64 (i : Int)])
            (fun x H13 => x.1 ≤ 2 ∧ x.2.1 = nx ++ ([x0, x1].take x.1).filter (fun x => !decide (x = 0)) ∧ x.2.1.length ≤ nx.length + x.1 ∧ St H H13 [pS tSet 73 a3 bl.length c3 bl, pB 73 p5 (setL s), pS tSet 73 x.2.2.1 x.2.1.length x.2.2.2 x.2.1, pB 73 p9 (setL b)]) (fun x _ => 2 - x.1) ?_ ?_
          · (conv => whnf)
            exact ⟨(0, nx, a7, c7), rfl, by simp, by simp, by simp, st12⟩
          · rintro ⟨i, ny, a13, c13⟩ H13 junk13 ⟨hi, hny, hnyl, st13⟩
            simp only at hi hny hnyl st13
            (conv => whnf); refine VIte.mk (fun hz3 => ?_) (fun hz3 => ?_) <;> simp only [decide_eq_true_eq, decide_eq_false_iff_not] at hz3
            · have hi2 : i = 0 ∨ i = 1 := by omega
              obtain ⟨x, hx⟩ : ∃ x, [x0, x1][i]? = some x := get_some (by simp; omega)
              have e : Value.agg (((setL x0 ++ setL x1).toArray).extract (((i : Nat) : Int).toNat * 4) (((i : Nat) : Int).toNat * 4 + 4)) = setV x := by
                rcases hi2 with rfl | rfl <;> cases hx <;> rfl
              have hnext : nx ++ ([x0, x1].take (i + 1)).filter (fun x => !decide (x = 0)) = ny ++ [x].filter (fun x => !decide (x = 0)) := by
                rw [hny, take_succ_snoc hx, List.filter_append, List.append_assoc]
              (conv => whnf); refine VSeq.run ?_
              (conv => whnf); refine ixvN (i := (i : Int)) ar195 ag73 (by omega) (show (i : Int) < ((2 : Nat) : Int) by omega) ?_
              rw [e]
              (conv => whnf); refine valloc (setV 0) (setL 0) rfl rfl ?_
              intro p14 H14 hp14 hs14 hb14 ha14
              have st14 := st13.box hp14 hs14 hb14 ha14
              (conv => whnf); refine stNB (cs := setL x) st14 4 rfl rfl (show 0 + 4 ≤ 4 by decide) rfl fun H15 st15 => ?_
              rw [spliceS] at st15
              have q15 := st15.blk 4 rfl
              (conv => whnf); refine ldN (cs := setL x) ag73 (q15.cells fun j v hv => by rw [Nat.zero_add]; exact hv) trivial ?_
              (conv => whnf); refine vbuildA ar73 (setV 0) rfl (setL 0) rfl ?_
              (conv => whnf); refine set_neq x 0 ?_
              by_cases hx0 : x = 0
              · have d : (!decide (x = 0)) = false := by rw [decide_eq_true hx0]; rfl
                rw [d]
                have hf : [x].filter (fun x => !decide (x = 0)) = [] := List.filter_cons_of_neg (p := fun x => !decide (x = 0)) (by rw [d]; decide)
                rw [hf, List.append_nil] at hnext
                (conv => whnf); rw [w64 (x := (i : Int) + 1) (by omega) (by omega)]
                refine ⟨rfl, (i + 1, ny, a13, c13), by simp, ⟨by simp only; omega, hnext.symm, by simp only; omega, ?_⟩, by simp only; omega⟩
                exact st15.pick [0, 1, 2, 3] (by decide)
              · have d : (!decide (x = 0)) = true := by rw [decide_eq_false hx0]; rfl
                rw [d]
                have hf : [x].filter (fun x => !decide (x = 0)) = [x] := List.filter_cons_of_pos (p := fun x => !decide (x = 0)) d
                rw [hf] at hnext
                (conv => whnf); refine ldN (cs := setL x) ag73 (q15.cells fun j v hv => by rw [Nat.zero_add]; exact hv) trivial ?_
                (conv => whnf); refine vbuild1 sl83 (setL x) rfl rfl (by decide) (by decide) ?_
                intro q16 H16 hq16 hs16 hb16 ha16
                have st16 := st15.skip hq16 ha16
                (conv => whnf); refine appO (ys := [x]) (ds := setL x) st16 2 sl83 rfl (hb16.cells fun j v hv => by rw [Nat.zero_add]; exact hv) (Ty.reps_one rfl) rfl (by simp [setL, Value.oneCell']) (by simp only [List.length_singleton]; omega) (by decide) fun a' c' H17 st17 _ => ?_
                (conv => whnf); rw [w64 (x := (i : Int) + 1) (by omega) (by omega)]
                refine ⟨rfl, (i + 1, ny ++ [x], a', c'), by simp, ⟨by simp only; omega, hnext.symm, by simp only [List.length_append, List.length_singleton]; omega, ?_⟩, by simp only; omega⟩
                simp only [List.length_append]
                exact st17.pick [0, 1, 2, 3] (by decide)
            · obtain rfl : i = 2 := by omega
              have hnb : ny = (bl.take (j + 1)).flatMap (cutB s) := by
                rw [take_flat (cutB s) hb, ← hnx, hny, hcut]; rfl
              (conv => whnf); rw [w64 (x := (j : Int) + 1) (by omega) (by omega)]
              refine ⟨rfl, (j + 1, ny, a13, c13), by simp, ⟨by simp only; omega, hnb, ?_⟩, by simp only; omega⟩
              exact st13.pick [0, 1, 2] (by decide)
        · obtain rfl : j = bl.length := by omega
          rw [List.take_length] at hnx
          (conv => whnf); rw [w64 (x := (k : Int) + 1) (by omega) (by omega)]
          refine ⟨rfl, (k + 1, nx, a7, c7), by simp, ⟨by simp only; omega, by simp only; rw [hsucc, hnx], ?_⟩, by simp only; omega⟩
          exact st7.pick [2] (by decide)
    · obtain rfl : k = sets.length := by omega
      rw [List.take_length] at hbl hpo
      have hone : ∀ x : BitVec 256, ((nextM x 0).1 : Int) = ((nextM x 0).1 : Int) := fun _ => rfl
      (conv => whnf); refine vmake sl83 (by omega) (by omega) (by omega) (by omega) ?_
      intro p5 H5 hp5 hs5 hb5 ha5
      rw [Int.toNat_natCast] at hb5
      rw [Int.toNat_natCast, Int.toNat_zero]
      have st5 := st3.newCap (T := tSet) (cap := bl.length) hp5 hs5 hb5 ha5 (by simp [tSet]) (by unfold maxLen; omega)
      have hrl := reps_len sets
      (conv => whnf)
      refine VLoop.mk [11, 55] (fun x : Nat × List (BitVec 256) × Option Addr × Nat => match x with | (b, out, a, c) => [.slice a out.length c, .int .i64 (b : Int)])
        (fun x H6 => x.1 ≤ 256 ∧ x.2.1 = (List.range x.1).flatMap (atomsAt bl) ∧ St H H6 [pS tSet 73 a3 bl.length c3 bl, pS tSet 73 x.2.2.1 x.2.1.length x.2.2.2 x.2.1]) (fun x _ => 256 - x.1) ?_ ?_
      · (conv => whnf)
        exact ⟨(0, [], some ⟨p5, 0, none⟩, bl.length), rfl, by simp, rfl, st5⟩
      · rintro ⟨b, out, a6, c6⟩ H6 junk6 ⟨hb, hout, st6⟩
        simp only at hb hout st6
        have hol : out.length ≤ b * 256 := by
          rw [hout]
          clear hout
          induction b with
          | zero => simp
          | succ b ih =>
            have h1 := ih (by omega)
            have h2 : (atomsAt bl b).length ≤ bl.length := List.length_filter_le _ _
            rw [List.range_succ, List.flatMap_append, List.length_append]
            simp only [List.flatMap_cons, List.flatMap_nil, List.append_nil]
            omega
        (conv => whnf); refine VIte.mk (fun hz2 => ?_) (fun hz2 => ?_) <;> simp only [decide_eq_true_eq, decide_eq_false_iff_not] at hz2
        · have hnext : (List.range (b + 1)).flatMap (atomsAt bl) = out ++ atomsAt bl b := by
            rw [hout, List.range_succ, List.flatMap_append]; simp
          (conv => whnf)
          refine VLoop.mk [11, 60] (fun x : Nat × List (BitVec 256) × Option Addr × Nat => match x with | (j, o, a, c) => [.slice a o.length c, .int .i64 (j : Int)])
            (fun x H7 => x.1 ≤ bl.length ∧ x.2.1 = out ++ (bl.take x.1).filter (fun s => (nextM s 0).1 == b) ∧ x.2.1.length ≤ out.length + x.1 ∧ St H H7 [pS tSet 73 a3 bl.length c3 bl, pS tSet 73 x.2.2.1 x.2.1.length x.2.2.2 x.2.1]) (fun x _ => bl.length - x.1) ?_ ?_
          · (conv => whnf)
            exact ⟨(0, out, a6, c6), rfl, by simp, by simp, by simp, st6⟩
          · rintro ⟨j, o, a7, c7⟩ H7 junk7 ⟨hj, ho, hoL, st7⟩
            simp only at hj ho hoL st7
            (conv => whnf); refine VIte.mk (fun hz3 => ?_) (fun hz3 => ?_) <;> simp only [decide_eq_true_eq, decide_eq_false_iff_not] at hz3
            · obtain ⟨x, hx⟩ := get_some (l := bl) (k := j) (by omega)
              have hnx : out ++ (bl.take (j + 1)).filter (fun s => (nextM s 0).1 == b) = o ++ [x].filter (fun s => (nextM s 0).1 == b) := by
                rw [ho, take_succ_snoc hx, List.filter_append, List.append_assoc]
              (conv => whnf); refine VSeq.run ?_
              (conv => whnf); refine ixO (j := j) sl83 st7 0 rfl hx rfl fun b8 o8 cs8 hO8 hc8 hr8 => ?_
              obtain rfl := hr8
              (conv => whnf); refine ldN (cs := setL x) ag73 hc8 trivial ?_
              (conv => whnf); refine valloc (setV 0) (setL 0) rfl rfl ?_
              intro p9 H9 hp9 hs9 hb9 ha9
              have st9 := st7.box hp9 hs9 hb9 ha9
              (conv => whnf); refine stNB (cs := setL x) st9 2 rfl rfl (show 0 + 4 ≤ 4 by decide) rfl fun H10 st10 => ?_
              rw [spliceS] at st10
              (conv => whnf); refine ldN (cs := setL x) ag73 ((st10.blk 2 rfl).cells fun j v hv => by rw [Nat.zero_add]; exact hv) trivial ?_
              (conv => whnf); refine pures (next_p x 0 (by decide) H10) fun H11 ha11 => ?_
              have st11 := st10.call ha11
              have q11 := st11.blk 2 rfl
              have hn8 := nextM_lt x 0
              (conv => whnf); rw [w64 (x := ((nextM x 0).1 : Int)) (by omega) (by omega)]
              cases hd : ((nextM x 0).1 == b) with
              | false =>
                have d : (((nextM x 0).1 : Int) == (b : Int)) = false := by
                  rw [beq_eq_false_iff_ne] at hd ⊢; omega
                have hf : [x].filter (fun s => (nextM s 0).1 == b) = [] := List.filter_cons_of_neg (p := fun s => (nextM s 0).1 == b) (by rw [hd]; decide)
                rw [hf, List.append_nil] at hnx
                (conv => whnf); rw [d]
                (conv => whnf); rw [w64 (x := (j : Int) + 1) (by omega) (by omega)]
                refine ⟨rfl, (j + 1, o, a7, c7), by simp, ⟨by simp only; omega, hnx.symm, by simp only; omega, ?_⟩, by simp only; omega⟩
                exact st11.pick [0, 1] (by decide)
              | true =>
                have d : (((nextM x 0).1 : Int) == (b : Int)) = true := by
                  rw [beq_iff_eq] at hd ⊢; omega
                have hf : [x].filter (fun s => (nextM s 0).1 == b) = [x] := List.filter_cons_of_pos (p := fun s => (nextM s 0).1 == b) hd
                rw [hf] at hnx
                (conv => whnf); rw [d]
                (conv => whnf); refine ldN (cs := setL x) ag73 (q11.cells fun j v hv => by rw [Nat.zero_add]; exact hv) trivial ?_
                (conv => whnf); refine vbuild1 sl83 (setL x) rfl rfl (by decide) (by decide) ?_
                intro q12 H12 hq12 hs12 hb12 ha12
                have st12 := st11.skip hq12 ha12
                (conv => whnf); refine appO (ys := [x]) (ds := setL x) st12 1 sl83 rfl (hb12.cells fun j v hv => by rw [Nat.zero_add]; exact hv) (Ty.reps_one rfl) rfl (by simp [setL, Value.oneCell']) (by simp only [List.length_singleton]; omega) (by decide) fun a' c' H13 st13 _ => ?_
                (conv => whnf); rw [w64 (x := (j : Int) + 1) (by omega) (by omega)]
                refine ⟨rfl, (j + 1, o ++ [x], a', c'), by simp, ⟨by simp only; omega, hnx.symm, by simp only [List.length_append, List.length_singleton]; omega, ?_⟩, by simp only; omega⟩
                simp only [List.length_append]
                exact st13.pick [0, 1] (by decide)
            · obtain rfl : j = bl.length := by omega
              rw [List.take_length] at ho
              (conv => whnf); rw [w64 (x := (b : Int) + 1) (by omega) (by omega)]
              exact ⟨rfl, (b + 1, o, a7, c7), by simp, ⟨by simp only; omega, by simp only; rw [hnext, ho]; rfl, st7⟩, by simp only; omega⟩
        · obtain rfl : b = 256 := by omega
          have hfin : out = atomsM sets := by rw [hout, hbl]; rfl
          have hv := st6.view 1 rfl
          subst hfin
          (conv => whnf)
          exact ⟨st6.old, _, _, rfl, hv⟩
end Go.Proofs.YthomdogheamfpaaDoor
/- (*dfa.net).close: the name of all that silent ways reach: the walk. -/
set_option linter.unusedVariables false
set_option linter.unusedSimpArgs false
set_option maxRecDepth 100000
namespace Go.VC
section
variable {α : Type} {T : Ty α} {e : TypeId} {a : Option Addr} {n cap : Nat} {xs ys : List α} {B S : Nat → Prop} {H0 H : Heap} {ps : List Pc}
/-- append of a slice that is only read, which may be long. -/
theorem appSDL {P : Program} {t ty by_ : Nat} {z : Value} {a2 : Option Addr} {c2 : Nat} {K : Value → Heap → Prop} (hf : T.Free) (hone : T.Ones) (st : StB B H0 H ps) (i : Nat) (ht : SlT P t e T.size by_ z) (hp : ps[i]? = some (pS T e a n cap xs)) (hSB : ∀ k, S k → B k) (hy : SlD T S H a2 c2 ys)
    (h63 : xs.length + ys.length ≤ 1099511627776) (hby : by_ ≤ 64)
    (k : ∀ a' cap' H', StB B H0 H' (ps.set i (pS T e a' (xs.length + ys.length) cap' (xs ++ ys))) → K (.slice a' (xs.length + ys.length) cap') H') :
    VEff P (Builtin.append_ #[t, t] ty [.slice a n cap, .slice a2 ys.length c2].toArray) H K := by
  refine vappendD (T := T) (S := S) (lo := 0) ht hone ((st.at_ i hp).1.free hf) (Nat.zero_le _) (fun k hk => ⟨st.up (hSB k hk), fun hb => (st.in_ i hp (.inl hb)).1 (hSB k hk)⟩) hy (by unfold maxLen; omega) (by have := Nat.mul_le_mul h63 hby; omega) ?_
  intro v' H' hown hagr hsz hfr
  have hown : SlO T none_ H' 0 e v' (xs ++ ys) := hown.free hf
  obtain ⟨a', cap', rfl⟩ := hown.hull
  rw [List.length_append] at hown hfr ⊢
  refine k a' cap' H' (st.upd i hp (hagr.mono fun k hk => ⟨hk.1, fun hb => hk.2 (.inl hb)⟩) _ ⟨hown, fun k hk => hk.elim⟩ (fun k hk => ?_) (fun k hk => ?_) hsz)
  · rcases hk with hk | hk
    · rcases hfr k hk with h | h
      · exact .inl (.inl h)
      · exact .inr h
    · exact hk.elim
  · rcases hk with hk | hk
    · exact (hown.lt hk).2
    · exact hk.elim
theorem StB.capI (st : StB B H0 H ps) (i : Nat) (hp : ps[i]? = some (pS T e a n cap xs)) : xs.length ≤ cap := by
  obtain ⟨cs, ⟨-, h⟩, -⟩ := (st.at_ i hp).1
  rcases h with ⟨-, h⟩ | ⟨b, c, l, h1, -, -, h2, -⟩
  · omega
  · injection h1 with e1 e2 e3
    omega
/-- The last one taken off. -/
theorem StB.popI {x : α} (st : StB B H0 H ps) (i : Nat) (hp : ps[i]? = some (pS T e a n cap (xs ++ [x]))) : StB B H0 H (ps.set i (pS T e a xs.length cap xs)) := by
  have hown := (st.at_ i hp).1
  refine st.say i hp _ ⟨hown.pop, fun k hk => hk.elim⟩ fun k hk => ?_
  rcases hk with ⟨o, m, c, hk⟩ | hk
  · injection hk with e1 e2 e3
    subst e1
    exact .inl ⟨o, n, cap, rfl⟩
  · exact hk.elim
end
/-- How many keys a map has, where no list of its keys is longer. -/
theorem mlenB {α : Type} {Ok : α → Prop} {enc : α → Value} {P : Program} {t kt et vt : TypeId} {z : Value} {S : Nat → Prop} {H : Heap} {b N : Nat} {m : α → Option Value} (ht : MapTW P t kt et z) (h : MapW Ok enc H b m) (hb : S b) (hN : ∀ l : List α, l.Nodup → (∀ a ∈ l, (m a).isSome = true) → l.length ≤ N) {K : Value → Prop}
    (k : ∀ c : Nat, c ≤ N → K (.int .i64 (c : Int))) : VDet P (Builtin.len_ #[t] vt [.map (some b)].toArray) S H K := by
  obtain ⟨⟨es, clock, h1, h2, h3, h4⟩, hok⟩ := h
  have pre : ∀ k, k ≤ es.size → ∃ l : List α, l.length = k ∧ ∀ (j : Nat) (a : α), l[j]? = some a → ∃ x, es[j]? = some x ∧ x.key = enc a ∧ m a = some x.val := by
    intro k
    induction k with
    | zero => exact fun _ => ⟨[], rfl, fun j a h => by simp at h⟩
    | succ k ih =>
      intro hk
      obtain ⟨l, hl, hg⟩ := ih (by omega)
      have hx : es[k]? = some es[k] := Array.getElem?_eq_getElem (by omega)
      obtain ⟨a, e1, e2⟩ := h3 k _ hx
      refine ⟨l ++ [a], by simp [hl], fun j a' hj => ?_⟩
      by_cases hjk : j < k
      · rw [List.getElem?_append_left (by omega)] at hj
        exact hg j a' hj
      · have hjl := (List.getElem?_eq_some_iff.1 hj).1
        simp only [List.length_append, List.length_cons, List.length_nil] at hjl
        obtain rfl : j = k := by omega
        rw [List.getElem?_append_right (by omega), hl, Nat.sub_self] at hj
        simp only [List.getElem?_cons_zero, Option.some.injEq] at hj
        subst hj
        exact ⟨_, hx, e1, e2⟩
  obtain ⟨l, hl, hg⟩ := pre es.size (Nat.le_refl _)
  have hnd : l.Nodup := by
    unfold List.Nodup
    rw [List.pairwise_iff_getElem]
    intro i j hi hj hij e
    obtain ⟨x, hx, hkx, -⟩ := hg i _ (List.getElem?_eq_getElem hi)
    obtain ⟨y, hy, hky, -⟩ := hg j _ (List.getElem?_eq_getElem hj)
    rw [e] at hkx
    have := stamped_key h2 hx hy (hkx.trans hky.symm)
    omega
  have hle := hN l hnd fun a ha => by
    obtain ⟨j, hj⟩ := List.getElem?_of_mem ha
    obtain ⟨x, -, -, e⟩ := hg j a hj
    rw [e]; rfl
  refine VDet.mk _ (fun w hw => ?_) (k es.size (by omega))
  have hb' := (hw b hb).trans h1
  simp [Builtin.len_, run_underlying ht.under, Go.MapKept.run_getObj_map hb', goInt]
end Go.VC
namespace Go.Proofs.YthomdogheamfpaaDoor
open Go.VC
theorem mss_le (X : PS) : mss X ≤ 65536 := by unfold mss; exact lstS_len _
/-- What silent ways lead to is all among the rows. -/
theorem silT_row {a : NfM} {q : Int} (h : a.has q = true) : ∃ row, (silT a)[q.toNat]? = some row ∧ row.length ≤ a.edges.length ∧ ∀ p, p ∈ row ↔ ∃ e ∈ a.edges, e.sil = true ∧ e.fr = q ∧ a.has e.to = true ∧ p = e.to := by
  have hn : 0 ≤ q ∧ q < (nstA a : Int) := by
    have := has_n a q
    rw [h] at this
    simpa using this.symm
  refine ⟨_, grp_get _ _ (by omega), List.length_filterMap_le _ _, fun p => ?_⟩
  rw [List.mem_filterMap]
  constructor
  · rintro ⟨e, he, h1⟩
    unfold keyS okE at h1
    split at h1
    · rename_i hk
      simp only [Bool.and_eq_true] at hk
      rw [Option.bind_some] at h1
      have hfr := (NfM.has_iff.1 hk.1.1)
      split at h1
      · rename_i h2
        injection h1 with h1
        exact ⟨e, he, hk.2, by simp only at h2; omega, hk.1.2, h1.symm⟩
      · cases h1
    · simp at h1
  · rintro ⟨e, he, h1, rfl, h3, rfl⟩
    refine ⟨e, he, ?_⟩
    unfold keyS okE
    rw [h, h3, h1]
    simp
structure ClsI (a : NfM) (X : List Int) (todo : List Int) (mm : Int → Option Value) : Prop where
  has : ∀ q ∈ todo, a.has q = true
  one : ∀ p, Dom mm p → mm p = some (.int .i64 1)
  tcl : ∀ p ∈ todo, clS a (· ∈ X) p
  mcl : ∀ p, Dom mm p → clS a (· ∈ X) p
  all : ∀ x ∈ X, Dom mm x ∨ x ∈ todo
  shut : ∀ p, Dom mm p → ∀ e ∈ a.edges, e.sil = true → e.fr = p → a.has e.to = true → Dom mm e.to ∨ e.to ∈ todo
  len : todo.length ≤ X.length + (65536 - mss (Dom mm)) * 1048576
theorem ClsI.done {a : NfM} {X : List Int} {mm : Int → Option Value} (h : ClsI a X [] mm) : ∀ q, Dom mm q ↔ clS a (· ∈ X) q := fun q =>
  ⟨h.mcl q, clS_least (Y := Dom mm) (fun x hx => (h.all x hx).elim id fun h => by cases h) (fun e he hs ht hf => (h.shut e.fr hf e he hs rfl ht).elim id fun h => by cases h) q⟩
theorem ClsI.old_ {a : NfM} {X todo : List Int} {mm : Int → Option Value} {q : Int} (h : ClsI a X (todo ++ [q]) mm) (hq : Dom mm q) : ClsI a X todo mm := by
  refine ⟨fun p hp => h.has p (List.mem_append_left _ hp), h.one, fun p hp => h.tcl p (List.mem_append_left _ hp), h.mcl, fun x hx => ?_, fun p hp e he h1 h2 h3 => ?_, ?_⟩
  · rcases h.all x hx with h1 | h1
    · exact .inl h1
    · rcases List.mem_append.1 h1 with h1 | h1
      · exact .inr h1
      · rw [List.mem_singleton] at h1; subst h1; exact .inl hq
  · rcases h.shut p hp e he h1 h2 h3 with h4 | h4
    · exact .inl h4
    · rcases List.mem_append.1 h4 with h4 | h4
      · exact .inr h4
      · rw [List.mem_singleton] at h4; rw [h4]; exact .inl hq
  · have := h.len
    simp only [List.length_append, List.length_cons, List.length_nil] at this
    omega
theorem ClsI.new_ {a : NfM} {X todo row : List Int} {mm : Int → Option Value} {q : Int} (h : ClsI a X (todo ++ [q]) mm) (hq : ¬ Dom mm q) (hrl : row.length ≤ 1048576) (hrow : ∀ p, p ∈ row ↔ ∃ e ∈ a.edges, e.sil = true ∧ e.fr = q ∧ a.has e.to = true ∧ p = e.to) :
    ClsI a X (todo ++ row) (put mm q (some (.int .i64 1))) ∧ mss (Dom (put mm q (some (.int .i64 1)))) < mss (Dom mm) := by
  have hqh := h.has q (by simp)
  have hqr := NfM.has_iff.1 hqh
  have hqc := h.tcl q (by simp)
  have hlt : mss (Dom (put mm q (some (.int .i64 1)))) < mss (Dom mm) := mss_lt (fun p hp => (dom_put p).2 (.inl hp)) hqr.1 (by omega) hq ((dom_put q).2 (.inr rfl))
  refine ⟨⟨fun p hp => ?_, fun p hp => ?_, fun p hp => ?_, fun p hp => ?_, fun x hx => ?_, fun p hp e he h1 h2 h3 => ?_, ?_⟩, hlt⟩
  · rcases List.mem_append.1 hp with hp | hp
    · exact h.has p (List.mem_append_left _ hp)
    · obtain ⟨e, -, -, -, h4, rfl⟩ := (hrow p).1 hp; exact h4
  · by_cases hpq : p = q
    · subst hpq; unfold put; rw [if_pos rfl]
    · rcases (dom_put p).1 hp with h1 | h1
      · unfold put; rw [if_neg hpq]; exact h.one p h1
      · exact absurd h1 hpq
  · rcases List.mem_append.1 hp with hp | hp
    · exact h.tcl p (List.mem_append_left _ hp)
    · obtain ⟨e, h1, h2, h3, h4, rfl⟩ := (hrow p).1 hp
      exact clS_shut a _ e h1 h2 h4 (by rw [h3]; exact hqc)
  · rcases (dom_put p).1 hp with h1 | h1
    · exact h.mcl p h1
    · rw [h1]; exact hqc
  · rcases h.all x hx with h1 | h1
    · exact .inl ((dom_put x).2 (.inl h1))
    · rcases List.mem_append.1 h1 with h1 | h1
      · exact .inr (List.mem_append_left _ h1)
      · rw [List.mem_singleton] at h1; exact .inl ((dom_put x).2 (.inr h1))
  · by_cases hpq : p = q
    · subst hpq
      exact .inr (List.mem_append_right _ ((hrow e.to).2 ⟨e, he, h1, h2, h3, rfl⟩))
    · rcases (dom_put p).1 hp with h4 | h4
      · rcases h.shut p h4 e he h1 h2 h3 with h5 | h5
        · exact .inl ((dom_put _).2 (.inl h5))
        · rcases List.mem_append.1 h5 with h5 | h5
          · exact .inr (List.mem_append_left _ h5)
          · rw [List.mem_singleton] at h5; exact .inl ((dom_put _).2 (.inr h5))
      · exact absurd h4 hpq
  · have := h.len
    have hle := mss_le (Dom mm)
    simp only [List.length_append, List.length_cons, List.length_nil] at this ⊢
    have e1 : (65536 - mss (Dom mm)) + 1 ≤ 65536 - mss (Dom (put mm q (some (.int .i64 1)))) := by omega
    have e2 := Nat.mul_le_mul_right 1048576 e1
    omega
abbrev tByt : TypeId := 5
set_option maxHeartbeats 16000000 in
theorem close_c {S : Nat → Prop} {H0 H : Heap} {v : Value} {a : NfM} {la : Option Addr} {lc : Nat} {X : List Int} (st : St H0 H [pS tIk 3 la X.length lc X]) (hS : ∀ k, S k → k < H0.size) (hv : NetV S H0 v a) (hX : ∀ q ∈ X, a.has q = true) (hXl : X.length ≤ 68719476736) (hel : a.edges.length ≤ 1048576) (hpow : PowH Tryd.prog H0) :
    FnOk Tryd.prog 69 #[v, .slice la X.length lc] H fun r H' => r = .string (nmB (lstS (clS a (· ∈ X)))) ∧ Agr (Old H0) H0 H' := by
  obtain ⟨nb, sa, sc, ta, tc, rfl, hnb, hcells, hsil, -⟩ := hv
  have hnle := nstA_le a
  refine FnOk.of_vc Tryd.func69 rfl (Tryd.call69 _) ?_
  (conv => whnf); refine mmakeW (Ok := anyK) (enc := kI) fun mb H1 hb1 hs1 hm1 ha1 => ?_
  have st1 := st.mapNewW hb1 hs1 hm1 ha1
  (conv => whnf)
  refine VLoop.mk [1] (fun x : List Int × Option Addr × Nat × (Int → Option Value) => match x with | (todo, a5, c5, mm) => [.slice a5 todo.length c5])
    (fun x H2 => ClsI a X x.1 x.2.2.2 ∧ St H0 H2 [pS tIk 3 x.2.1 x.1.length x.2.2.1 x.1, pMW anyK kI mb x.2.2.2]) (fun x _ => mss (Dom x.2.2.2) * 1048578 + x.1.length) ?_ ?_
  · (conv => whnf)
    refine ⟨(X, la, lc, fun _ => none), rfl, ⟨hX, (fun p hp => by cases hp), fun p hp => clS_in hp, (fun p hp => by cases hp), fun x hx => .inr hx, (fun p hp => by cases hp), Nat.le_add_right _ _⟩, st1⟩
  · rintro ⟨todo, a5, c5, mm⟩ H2 junk2 ⟨hI, st2⟩
    simp only at hI st2
    have hlen := hI.len
    have htl : todo.length ≤ 137438953472 := by
      have : (65536 - mss (Dom mm)) * 1048576 ≤ 65536 * 1048576 := Nat.mul_le_mul_right _ (by omega)
      omega
    (conv => whnf); refine VIte.mk (fun hz => ?_) (fun hz => ?_) <;> simp only [decide_eq_true_eq, decide_eq_false_iff_not] at hz
    · have hne : todo ≠ [] := fun e => by subst e; simp at hz
      obtain ⟨td, q, rfl⟩ : ∃ td q, todo = td ++ [q] := ⟨todo.dropLast, todo.getLast hne, (List.dropLast_concat_getLast hne).symm⟩
      have hll : (td ++ [q]).length = td.length + 1 := by simp
      have hqh := hI.has q (by simp)
      have hget : (td ++ [q])[td.length]? = some q := by simp
      have w1 : IntKind.wrap .i64 (((td ++ [q]).length : Int) - 1) = (td.length : Int) := by rw [hll, w64 (by omega) (by omega)]; omega
      (conv => whnf); rw [w1]
      (conv => whnf); refine ixr (i := td.length) sl33 (st2.view 0 rfl) hget rfl ?_
      rintro b3 o3 c3 hS3 hc3 ⟨rfl, hqk⟩
      (conv => whnf); refine ld1 ct3 hc3.one trivial ?_
      (conv => whnf); rw [w1]
      (conv => whnf); refine vcutH sl33 (by omega) (by have := st2.capI 0 rfl; omega) ?_
      rw [Int.toNat_natCast]
      have st3 := st2.popI 0 rfl
      (conv => whnf); refine mlookW (a := q) mapII keyIW trivial (st3.mapW 1 rfl) trivial ?_
      cases hmq : mm q with
      | some w =>
        have hdq : Dom mm q := by unfold Dom; rw [hmq]; rfl
        have hw := hI.one q hdq
        rw [hmq] at hw
        injection hw with hw
        subst hw
        (conv => whnf)
        exact ⟨rfl, (td, a5, c5, mm), rfl, ⟨hI.old_ hdq, st3⟩, by simp only [List.length_append, List.length_cons, List.length_nil]; omega⟩
      | none =>
        have hnq : ¬ Dom mm q := by unfold Dom; rw [hmq]; decide
        obtain ⟨row, hrow, hrl, hrm⟩ := silT_row hqh
        obtain ⟨hI2, hlt⟩ := hI.new_ hnq (Nat.le_trans hrl hel) hrm
        (conv => whnf); refine mputPW (a := q) st3 1 mapII keyIW trivial rfl rfl fun H4 st4 => ?_
        (conv => whnf); refine fa fl132_0 ?_
        (conv => whnf); refine ld1 (v := .slice sa (nstA a) sc) ct23 ((hcells.eq (st4.old nb (hS nb hnb))) 0 _ rfl) trivial ?_
        (conv => whnf); refine ixrn (i := q.toNat) sl23 (hsil.frame (st4.old.mono hS)) (grp_len _ _ _).symm hrow (by have := NfM.has_iff.1 hqh; omega) ?_
        rintro b5 o5 cs5 hS5 hc5 ⟨ra, rc, rfl, hrd⟩
        (conv => whnf); refine ld1 ct33 hc5.one trivial ?_
        (conv => whnf); refine appSDL (S := S) (tInt_free .i64) (tInt_ones .i64) st4 0 sl33 rfl hS hrd (by simp only [List.length_append, List.length_cons, List.length_nil] at htl; omega) (by decide) fun a6 c6 H6 st6 => ?_
        (conv => whnf)
        refine ⟨rfl, (td ++ row, a6, c6, put mm q (some (.int .i64 1))), by simp only [List.length_append], ⟨hI2, ?_⟩, ?_⟩
        · simp only [List.length_append]
          exact st6
        · have e2 := Nat.mul_le_mul_right 1048578 (Nat.succ_le_of_lt hlt)
          simp only [List.length_append, List.length_cons, List.length_nil]
          omega
    · obtain rfl : todo = [] := List.eq_nil_of_length_eq_zero (by omega)
      have hdone := hI.done
      have hrng : ∀ q, Dom mm q → 0 ≤ q ∧ q < 65536 := fun q hq => has_rng (clS_has (X := (· ∈ X)) hX) q ((hdone q).1 hq)
      (conv => whnf); refine mlenB (N := 65536) mapII (st2.mapW 1 rfl) trivial (fun l hl hin => nodupI_len 65536 l hl fun x hx => hrng x (hin x hx)) fun c hc => ?_
      (conv => whnf); refine vmake1 sl33 rfl (by omega) (by omega) (by omega) (by omega) ?_
      intro ab H3 hab hs3 hb3 ha3
      rw [Int.toNat_natCast] at hb3
      rw [Int.toNat_natCast, show (0 : Int).toNat = 0 from rfl]
      have st3 := st2.newCap (T := tIk) (cap := c) hab hs3 hb3 ha3 (by simp [tInt]) (by unfold maxLen; omega)
      (conv => whnf); refine mrangeP st3 1 mapII rfl fun r n3 H4 st4 => ?_
      (conv => whnf)
      refine VLoop.mk [7] (fun x : List Int × Option Addr × Nat × Nat => match x with | (ks, a5, c5, n) => [.slice a5 ks.length c5])
        (fun x H5 => x.1.Nodup ∧ (∀ q ∈ x.1, Dom mm q) ∧ ∃ D last, (∀ q, D q ↔ q ∈ x.1) ∧ St H0 H5 [pIW anyK kI mb r mm D last x.2.2.2, pS tIk 3 x.2.1 x.1.length x.2.2.1 x.1]) (fun x _ => x.2.2.2) ?_ ?_
      · (conv => whnf)
        exact ⟨([], some ⟨ab, 0, none⟩, c, n3), rfl, List.Pairwise.nil, (fun q h => by cases h), _, none, fun q => ⟨fun h => h.elim, fun h => by cases h⟩, st4.pick [1, 2] (by decide)⟩
      · rintro ⟨ks, a5, c5, n5⟩ H5 junk5 ⟨hnd, hin, D, last, hD, st5⟩
        simp only at hnd hin hD st5
        have hkl := nodupI_len 65536 ks hnd fun x hx => hrng x (hin x hx)
        (conv => whnf); refine mnextP st5 0 keyIW.inj rfl (fun hall => ?_) fun q v H6 n6 hq hnD hlt st6 => ?_
        · have hset : ks.mergeSort (fun x y => decide (x ≤ y)) = lstS (clS a (· ∈ X)) := lstS_uniq (fun q hq => has_rng (clS_has (X := (· ∈ X)) hX) q hq) (sorted_srt hnd) fun q => by
            rw [List.mem_mergeSort, ← hdone q]
            exact ⟨hin q, fun h => (hD q).1 (hall q h)⟩
          have hL : ∀ q ∈ lstS (clS a (· ∈ X)), 0 ≤ q ∧ q < 65536 := fun q hq => has_rng (clS_has (X := (· ∈ X)) hX) q ((lstS_mem (has_rng (clS_has (X := (· ∈ X)) hX)) q).1 hq)
          have hLl : (lstS (clS a (· ∈ X))).length ≤ 65536 := lstS_len _
          have hel2 : (ks.mergeSort fun x y => decide (x ≤ y)).length = ks.length := List.length_mergeSort _
          (conv => whnf); refine sortI sorts_ st5 1 rfl (by omega) fun H7 st7 => ?_
          rw [hset] at st7 hel2
          rw [← hel2] at st7 ⊢
          generalize lstS (clS a (· ∈ X)) = L at *
          replace st7 : St H0 H7 [pIW anyK kI mb r mm D last n5, pS tIk 3 a5 L.length c5 L] := st7
          have hv7 := st7.view 1 rfl
          have hpow7 := hpow.agr st7.old
          have u7 : St H7 H7 [pS tU8 tByt none 0 0 []] := (St.nil H7).nils tU8 tByt
          (conv => whnf)
          refine VLoop.mk [9, 59] (fun x : Nat × Option Addr × Nat => match x with | (i, a9, c9) => [.slice a9 (nameN (L.take i)).length c9, .int .i64 (i : Int)])
            (fun x H8 => x.1 ≤ L.length ∧ (x.1 = 0 → x.2.1 = none) ∧ St H7 H8 [pS tU8 tByt x.2.1 (nameN (L.take x.1)).length x.2.2 ((nameN (L.take x.1)).map fun (y : Nat) => (y : Int))]) (fun x _ => L.length - x.1) ?_ ?_
          · (conv => whnf)
            exact ⟨(0, none, 0), rfl, Nat.zero_le _, fun _ => rfl, u7⟩
          · rintro ⟨i, a9, c9⟩ H8 junk8 ⟨hi, h09, st8⟩
            simp only at hi h09 st8
            (conv => whnf); refine VIte.mk (fun hz2 => ?_) (fun hz2 => ?_) <;> simp only [decide_eq_true_eq, decide_eq_false_iff_not] at hz2
            · obtain ⟨q, hq⟩ := get_some (l := L) (k := i) (by omega)
              have hqr := hL q (List.mem_of_getElem? hq)
              have hnl : (nameN (L.take i)).length ≤ 393216 := by
                have h1 := nameN_len (l := L.take i) fun x hx => hL x (List.mem_of_mem_take hx)
                have h2 : (L.take i).length ≤ 65536 := by rw [List.length_take]; omega
                omega
              have hml : ((nameN (L.take i)).map fun (y : Nat) => (y : Int)).length = (nameN (L.take i)).length := List.length_map _
              have hdl := dig_len hqr
              (conv => whnf); refine ixr (i := i) sl33 (hv7.frame st8.old) hq rfl ?_
              rintro b9 o9 cs9 hS9 hc9 ⟨rfl, -⟩
              (conv => whnf); refine ld1 ct3 hc9.one trivial ?_
              (conv => whnf); refine appI appInt_ st8 hpow7 (by omega) (by omega) (by omega) fun a10 c10 H10 st10 => ?_
              have e1 : ((nameN (L.take i)).map fun (y : Nat) => (y : Int)) ++ digL q = (nameN (L.take i) ++ digN q).map fun (y : Nat) => (y : Int) := by rw [List.map_append, digL_N]
              rw [e1] at st10 ⊢
              have hl1 : ((nameN (L.take i) ++ digN q).map fun (y : Nat) => (y : Int)).length = (nameN (L.take i)).length + (digN q).length := by simp
              (conv => whnf); refine vbuild1 sl85 [.int .u8 44] rfl rfl (by decide) (by decide) ?_
              intro q11 H11 hq11 hs11 hb11 ha11
              have st11 := st10.skip hq11 ha11
              (conv => whnf); refine app1 (x := (44 : Int)) st11 0 sl85 rfl hb11 ⟨rfl, inU8 (x := 44) (by decide)⟩ rfl (by omega) (by decide) fun a12 c12 H12 st12 _ => ?_
              have e2 : ((nameN (L.take i) ++ digN q).map fun (y : Nat) => (y : Int)) ++ [44] = (nameN (L.take (i + 1))).map fun (y : Nat) => (y : Int) := by
                rw [take_succ_snoc hq, nameN_snoc, List.map_append (l₂ := [44])]
                rfl
              have e3 : ((nameN (L.take i) ++ digN q).map fun (y : Nat) => (y : Int)).length + 1 = (nameN (L.take (i + 1))).length := by
                rw [hl1, take_succ_snoc hq, nameN_snoc]
                simp only [List.length_append, List.length_cons, List.length_nil]
              rw [e2, e3] at st12
              rw [e3]
              (conv => whnf); rw [w64 (x := (i : Int) + 1) (by omega) (by omega)]
              exact ⟨rfl, (i + 1, a12, c12), by simp, ⟨by simp only; omega, fun h => by simp only at h; omega, st12⟩, by simp only; omega⟩
            · obtain rfl : i = L.length := by omega
              rw [List.take_length] at st8
              rw [List.take_length]
              have hold : Agr (Old H0) H0 H8 := st7.old.trans (st8.old.mono fun k hk => st7.up hk)
              cases a9 with
              | none =>
                have hL0 : L = [] := by
                  apply Classical.byContradiction
                  intro hne
                  have hnl := st8.capI 0 rfl
                  obtain ⟨cs, ⟨-, hcs⟩, -⟩ := (st8.at_ 0 rfl).1
                  rcases hcs with ⟨h1, h2⟩ | ⟨b, c', l', h1, -⟩
                  · rw [List.length_map] at h2
                    cases L with
                    | nil => exact hne rfl
                    | cons x l =>
                      have : nameN (x :: l) = (digN x ++ [44]) ++ nameN l := by unfold nameN; rw [List.flatMap_cons]
                      rw [this] at h2
                      simp at h2
                  · injection h1 with h1; cases h1
                subst hL0
                (conv => whnf); refine vb2s0 (e := tByt) rfl rfl rfl ?_
                (conv => whnf)
                exact ⟨rfl, hold⟩
              | some ad =>
                obtain ⟨cs, ⟨-, hcs⟩, hrp⟩ := (st8.at_ 0 rfl).1
                obtain ⟨rfl, -⟩ := reps_u8 hrp
                rcases hcs with ⟨h1, -⟩ | ⟨b, c', l', h1, -, hb, -, -, -, htk⟩
                · injection h1 with h1; cases h1
                · injection h1 with h1 h2 h3
                  injection h1 with h1
                  subst h1
                  (conv => whnf); refine vb2s (nameN L) (e := tByt) rfl rfl rfl (fun j x hx => ?_) rfl ?_
                  · have hcj : ((((nameN L).map fun (y : Nat) => (y : Int)).map (Value.int .u8)))[j]? = some (.int .u8 (x : Int)) := by
                      rw [List.getElem?_map, List.getElem?_map, hx]; rfl
                    rw [← htk, List.getElem?_take] at hcj
                    split at hcj
                    · rw [Nat.zero_add, hb.cell]; exact hcj
                    · cases hcj
                  (conv => whnf)
                  exact ⟨rfl, hold⟩
        · have hdq : Dom mm q := by unfold Dom; rw [hq]; rfl
          have hqk : q ∉ ks := fun h => hnD ((hD q).2 h)
          have hqr := hrng q hdq
          have hnd2 : (ks ++ [q]).Nodup := List.nodup_append.2 ⟨hnd, by simp, fun x hx y hy e => by rw [List.mem_singleton] at hy; subst hy; subst e; exact hqk hx⟩
          (conv => whnf); refine mhere (st6.iterW 0 rfl) keyIW.inj hq ?_
          (conv => whnf); refine vbuild1 sl33 [.int .i64 q] rfl rfl (by decide) (by decide) ?_
          intro q11 H11 hq11 hs11 hb11 ha11
          (conv => whnf); refine app1 (x := q) (st6.skip hq11 ha11) 1 sl33 rfl hb11 ⟨rfl, kint hqr⟩ rfl (by omega) (by decide) fun a12 c12 H12 st12 _ => ?_
          (conv => whnf)
          refine ⟨rfl, (ks ++ [q], a12, c12, n6), by simp only [List.length_append, List.length_cons, List.length_nil], ⟨hnd2, fun x hx => ?_, _, _, fun x => ?_, by simp only [List.length_append, List.length_cons, List.length_nil]; exact st12⟩, hlt⟩
          · rcases List.mem_append.1 hx with h | h
            · exact hin x h
            · rw [List.mem_singleton] at h; subst h; exact hdq
          · rw [List.mem_append, List.mem_singleton, hD x]
end Go.Proofs.YthomdogheamfpaaDoor
/- members, the two closures of Determinize: the walks. -/
set_option linter.unusedVariables false
set_option linter.unusedSimpArgs false
set_option maxRecDepth 100000
namespace Go.VC
section
variable {α : Type} {T : Ty α} {e : TypeId} {a : Option Addr} {n cap : Nat} {xs : List α} {B : Nat → Prop} {H0 H : Heap} {ps : List Pc}
/-- append to an own slice that may be long. -/
theorem appL5 {P : Program} {t ty q o m cap2 by_ : Nat} {z : Value} {ys : List α} {ds : List Value} {K : Value → Heap → Prop} (st : StB B H0 H ps) (i : Nat) (ht : SlT P t e T.size by_ z) (hp : ps[i]? = some (pS T e a n cap xs))
    (hd : Cells H q o ds) (hy : T.reps none_ H ds ys) (hm : m = ys.length) (h1 : ∀ u ∈ ds, u.oneCell' = true) (h63 : xs.length + ys.length ≤ 1099511627776) (hby : by_ ≤ 64)
    (k : ∀ a' cap' H', StB B H0 H' (ps.set i (pS T e a' (xs.length + ys.length) cap' (xs ++ ys))) → Agr (fun k => k < H.size ∧ ¬ slB (.slice a n cap) k) H H' → K (.slice a' (xs.length + ys.length) cap') H') :
    VEff P (Builtin.append_ #[t, t] ty [.slice a n cap, .slice (some ⟨q, o, none⟩) m cap2].toArray) H K := by
  refine vappendO (T := T) (S := none_) (lo := 0) ht (st.at_ i hp).1 (Nat.zero_le _) (fun k hk => hk.elim) hd hy hm h1 (by unfold maxLen; omega) (by have := Nat.mul_le_mul h63 hby; omega) ?_
  intro v' H' hown hagr hsz hfr
  obtain ⟨a', cap', rfl⟩ := hown.hull
  rw [List.length_append] at hown hfr ⊢
  refine k a' cap' H' (st.upd i hp (hagr.mono fun k hk => ⟨hk.1, fun hb => hk.2 (.inl hb)⟩) _ ⟨hown, fun k hk => hk.elim⟩ (fun k hk => ?_) (fun k hk => ?_) hsz) hagr
  · rcases hk with hk | hk
    · rcases hfr k hk with h | h
      · exact .inl (.inl h)
      · exact .inr h
    · exact hk.elim
  · rcases hk with hk | hk
    · exact (hown.lt hk).2
    · exact hk.elim
end
end Go.VC
namespace Go.Proofs.YthomdogheamfpaaDoor
open Go.VC
theorem name_byte {l : List Int} (h : ∀ q ∈ l, 0 ≤ q ∧ q < 65536) : ∀ b ∈ nameN l, b = 44 ∨ (48 ≤ b ∧ b ≤ 57) := by
  intro b hb
  obtain ⟨q, hq, hb⟩ := List.mem_flatMap.1 hb
  rcases List.mem_append.1 hb with hb | hb
  · exact .inr (dig_rng (h q hq).1 b hb)
  · rw [List.mem_singleton] at hb; exact .inl hb
def mem5 (l : List Int) (i : Nat) : List Int × Nat := ((nameN l).take i).foldl mst ([], 0)
theorem mem5_succ {l : List Int} {i b : Nat} (h : (nameN l)[i]? = some b) : mem5 l (i + 1) = mst (mem5 l i) b := by
  unfold mem5
  rw [take_succ_snoc h, List.foldl_append]
  rfl
theorem mem5_all {l : List Int} (h : ∀ q ∈ l, 0 ≤ q ∧ q < 65536) : mem5 l (nameN l).length = (l, 0) := by
  unfold mem5
  rw [List.take_length, mst_all l [] fun q hq => (h q hq).1]
  rfl
set_option maxHeartbeats 4000000 in
theorem members_c {l : List Int} (h : ∀ q ∈ l, 0 ≤ q ∧ q < 65536) (hl : l.length ≤ 65536) (H : Heap) :
    FnOk Tryd.prog 71 #[.string (nmB l)] H fun r H' => Agr (Old H) H H' ∧ ∃ ra rc, r = .slice ra l.length rc ∧ SlO tIk none_ H' H.size 3 (.slice ra l.length rc) l := by
  have hsz := nmB_size h
  have hnl := nameN_len h
  refine FnOk.of_vc Tryd.func71 rfl (Tryd.call71 _) ?_
  (conv => whnf); rw [hsz]
  have st1 := (St.nil H).nils tIk 3
  (conv => whnf)
  refine VLoop.mk [3, 4, 8] (fun x : Nat × Option Addr × Nat => match x with | (i, a5, c5) => [.slice a5 (mem5 l i).1.length c5, .int .i64 ((mem5 l i).2 : Int), .int .i64 (i : Int)])
    (fun x H2 => x.1 ≤ (nameN l).length ∧ St H H2 [pS tIk 3 x.2.1 (mem5 l x.1).1.length x.2.2 (mem5 l x.1).1]) (fun x _ => (nameN l).length - x.1) ?_ ?_
  · (conv => whnf)
    exact ⟨(0, none, 0), rfl, Nat.zero_le _, st1⟩
  · rintro ⟨i, a5, c5⟩ H2 junk2 ⟨hi, st2⟩
    simp only at hi st2
    obtain ⟨hn2, k2, hk2, hm2⟩ := mst_pre l [] i h
    change (mem5 l i).2 < 65536 at hn2
    change (mem5 l i).1 = _ at hm2
    have hml : (mem5 l i).1.length ≤ 65536 := by rw [hm2]; simp only [List.nil_append, List.length_take]; omega
    (conv => whnf); refine VIte.mk (fun hz => ?_) (fun hz => ?_) <;> simp only [decide_eq_true_eq, decide_eq_false_iff_not] at hz
    · obtain ⟨b, hb⟩ := getB (s := nmB l) (k := i) (by omega)
      have hbn := byN_get hb
      rw [byN_nm h] at hbn
      have hsucc := mem5_succ hbn
      have hrng := name_byte h _ (List.mem_of_getElem? hbn)
      obtain ⟨y, hy⟩ : ∃ y, y = b.toNat := ⟨_, rfl⟩
      rw [← hy] at hsucc hrng hbn
      obtain ⟨M, hM⟩ : ∃ M, M = mem5 l i := ⟨_, rfl⟩
      rw [← hM] at st2 hn2 hml hsucc
      rw [← hM]
      (conv => whnf); refine VSeq.run ?_
      (conv => whnf); refine vidxs Tryd.underlying9 rfl hb ?_
      rw [← hy]
      rcases hrng with h44 | h48
      · have d1 : ((y : Int) == 44) = true := by rw [h44]; rfl
        have hs2 : mem5 l (i + 1) = (M.1 ++ [(M.2 : Int)], 0) := by rw [hsucc]; unfold mst; rw [if_pos h44]
        (conv => whnf); rw [d1]
        (conv => whnf); refine vbuild1 sl33 [.int .i64 (M.2 : Int)] rfl rfl (by decide) (by decide) ?_
        intro q11 H11 hq11 hs11 hb11 ha11
        (conv => whnf); refine app1 (x := (M.2 : Int)) (st2.skip hq11 ha11) 0 sl33 rfl hb11 ⟨rfl, kint ⟨by omega, by omega⟩⟩ rfl (by omega) (by decide) fun a12 c12 H12 st12 _ => ?_
        (conv => whnf); rw [w64 (x := (i : Int) + 1) (by omega) (by omega)]
        refine ⟨rfl, (i + 1, a12, c12), ?_, ⟨by simp only; omega, ?_⟩, by simp only; omega⟩
        · simp only
          rw [hs2]
          simp
        · simp only
          rw [hs2]
          simpa using st12
      · have d1 : ((y : Int) == 44) = false := by rw [beq_eq_false_iff_ne]; omega
        have hs2 : mem5 l (i + 1) = (M.1, 10 * M.2 + (y - 48)) := by rw [hsucc]; unfold mst; rw [if_neg (by omega)]
        (conv => whnf); rw [d1]
        (conv => whnf); rw [w64 (x := 10 * (M.2 : Int)) (by omega) (by omega)]
        (conv => whnf); refine vidxs Tryd.underlying9 rfl hb ?_
        rw [← hy]
        (conv => whnf); rw [w8 (x := (y : Int) - 48) (by omega) (by omega)]
        (conv => whnf); rw [w64 (x := (y : Int) - 48) (by omega) (by omega)]
        (conv => whnf); rw [w64 (x := 10 * (M.2 : Int) + ((y : Int) - 48)) (by omega) (by omega)]
        (conv => whnf); rw [w64 (x := (i : Int) + 1) (by omega) (by omega)]
        refine ⟨rfl, (i + 1, a5, c5), ?_, ⟨by simp only; omega, ?_⟩, by simp only; omega⟩
        · simp only
          rw [hs2]
          simp only
          rw [show ((10 * M.2 + (y - 48) : Nat) : Int) = 10 * (M.2 : Int) + ((y : Int) - 48) by omega]
          simp
        · simp only
          rw [hs2]
          exact st2
    · obtain rfl : i = (nameN l).length := by omega
      rw [mem5_all h] at st2
      (conv => whnf)
      rw [mem5_all h]
      exact ⟨st2.old, a5, c5, rfl, St.own st2 0 rfl⟩
set_option maxHeartbeats 4000000 in
theorem index5_p {S : Nat → Prop} {H : Heap} {a : Option Addr} {c : Nat} {xs : List Int} {q : Int} (hS : ∀ k, S k → k < H.size) (h : SlD tIk S H a c xs) :
    FnOk Tryd.prog 107 #[.slice a xs.length c, .int .i64 q] H fun r H' => Agr (Old H) H H' ∧ ∃ n : Int, r = .int .i64 n ∧ decide (0 ≤ n) = decide (q ∈ xs) := by
  have hle := h.le
  unfold maxLen at hle
  refine FnOk.of_vc Tryd.func107 rfl (Tryd.call107 _) ?_
  (conv => whnf)
  refine VLoop.mk [8] (fun i : Nat => [.int .i64 (i : Int)]) (fun i H2 => i ≤ xs.length ∧ Agr (Old H) H H2 ∧ q ∉ xs.take i) (fun i _ => xs.length - i) ?_ ?_
  · (conv => whnf)
    exact ⟨0, rfl, Nat.zero_le _, Agr.refl _ _, by simp⟩
  · rintro i H2 junk ⟨hi, ha, hno⟩
    (conv => whnf); refine VIte.mk (fun hz => ?_) (fun hz => ?_) <;> simp only [decide_eq_true_eq, decide_eq_false_iff_not] at hz
    · obtain ⟨x, hx⟩ := get_some (l := xs) (k := i) (by omega)
      (conv => whnf); refine ixr (i := i) sl33 (h.frame (ha.mono hS)) hx rfl ?_
      rintro b3 o3 c3 hS3 hc3 ⟨rfl, -⟩
      (conv => whnf); refine ld1 ct3 hc3.one trivial ?_
      by_cases he : x = q
      · have d1 : (q == x) = true := by rw [he]; simp
        (conv => whnf); rw [d1]
        (conv => whnf)
        refine ⟨ha, i, rfl, ?_⟩
        rw [decide_eq_true (show (0 : Int) ≤ (i : Int) by omega), decide_eq_true (he ▸ List.mem_of_getElem? hx)]
      · have d1 : (q == x) = false := beq_eq_false_iff_ne.2 (Ne.symm he)
        (conv => whnf); rw [d1]
        (conv => whnf); rw [w64 (x := (i : Int) + 1) (by omega) (by omega)]
        refine ⟨rfl, i + 1, by simp, ⟨by omega, ha, ?_⟩, by omega⟩
        rw [take_succ_snoc hx, List.mem_append, List.mem_singleton]
        rintro (h1 | h1)
        · exact hno h1
        · exact he h1.symm
    · obtain rfl : i = xs.length := by omega
      rw [List.take_length] at hno
      (conv => whnf)
      exact ⟨ha, -1, rfl, by rw [decide_eq_false hno]; rfl⟩
theorem contains5_p {S : Nat → Prop} {H : Heap} {a : Option Addr} {c : Nat} {xs : List Int} {q : Int} (hS : ∀ k, S k → k < H.size) (h : SlD tIk S H a c xs) :
    Pure Tryd.prog 74 #[.slice a xs.length c, .int .i64 q] H (.bool (decide (q ∈ xs))) := by
  refine FnOk.of_vc Tryd.func74 rfl (Tryd.call74 _) ?_
  (conv => whnf); refine VCall.mk (index5_p (q := q) hS h) ?_
  rintro _ H1 ⟨ha1, n, rfl, hn⟩
  (conv => whnf); rw [hn]
  (conv => whnf)
  exact ⟨rfl, ha1⟩
theorem takT_row {a : NfM} {q : Int} (h : a.has q = true) : ∃ row, (takT a)[q.toNat]? = some row ∧ row.length ≤ a.edges.length ∧ ∀ e, e ∈ row ↔ e ∈ a.edges ∧ e.sil = false ∧ e.fr = q ∧ a.has e.to = true := by
  have hn : 0 ≤ q ∧ q < (nstA a : Int) := by
    have := has_n a q
    rw [h] at this
    simpa using this.symm
  refine ⟨_, grp_get _ _ (by omega), List.length_filterMap_le _ _, fun e => ?_⟩
  rw [List.mem_filterMap]
  constructor
  · rintro ⟨e', he, h1⟩
    unfold keyT okE at h1
    split at h1
    · rename_i hk
      simp only [Bool.and_eq_true, Bool.not_eq_true'] at hk
      rw [Option.bind_some] at h1
      have hfr := (NfM.has_iff.1 hk.1.1)
      split at h1
      · rename_i h2
        injection h1 with h1
        subst h1
        exact ⟨he, hk.2, by show e'.fr = q; simp only at h2; omega, hk.1.2⟩
      · cases h1
    · simp at h1
  · rintro ⟨he, h1, rfl, h3⟩
    refine ⟨e, he, ?_⟩
    unfold keyT okE
    rw [h, h3, h1]
    simp
/-- Where one byte leads from a set. -/
noncomputable def stepA (a : NfM) (l : List Int) (b : Nat) : List Int := lstS (goS a (· ∈ l) b)
theorem stepA_rng {a : NfM} {l : List Int} {b : Nat} : ∀ q ∈ stepA a l b, a.has q = true := fun q hq => goS_has a _ b q ((lstS_mem (has_rng (goS_has a (· ∈ l) b)) q).1 hq)
theorem htak_frame {S : Nat → Prop} {H H2 H3 : Heap} {ps qs : List Pc} {ra : Option Addr} {rc : Nat} {row : List EdM} (h : SlD tEd S H2 ra rc row) (s2 : St H H2 ps) (s3 : St H H3 qs) (hS : ∀ k, S k → k < H.size) : SlD tEd S H3 ra rc row :=
  h.frame fun k hk => by rw [s3.old k (hS k hk), s2.old k (hS k hk)]
set_option maxHeartbeats 8000000 in
theorem step5_c {S : Nat → Prop} {H : Heap} {v : Value} {a : NfM} {l : List Int} {wb b : Nat} (hS : ∀ k, S k → k < H.size) (hwb : S wb) (hcell : Cells H wb 0 [v]) (hv : NetV S H v a) (hel : a.edges.length ≤ 1048576) (hl : ∀ q ∈ l, a.has q = true) (hll : l.length ≤ 65536) (hb : b < 256) (hpow : PowH Tryd.prog H) :
    FnOk Tryd.prog 70 #[.string (nmB l), .int .u8 (b : Int), .pointer (some ⟨wb, 0, none⟩)] H fun r H' => r = .string (nmB (stepA a l b)) ∧ Agr (Old H) H H' := by
  have hlr : ∀ q ∈ l, 0 ≤ q ∧ q < 65536 := fun q hq => by have := NfM.has_iff.1 (hl q hq); omega
  have hv0 := hv
  obtain ⟨nb, sa, sc, ta, tc, hve, hnb, hcells, -, htak⟩ := hv
  subst hve
  refine FnOk.of_vc Tryd.func70 rfl (Tryd.call70 _) ?_
  have st0 := (St.nil H).nils tIk 3
  (conv => whnf); refine VCall.mk (members_c hlr hll H) ?_
  rintro _ H1 ⟨ha1, ma, mc, rfl, hown1⟩
  obtain ⟨_, _, e1, st1⟩ := st0.got ha1 hown1
  injection e1 with e11 e12 e13
  subst e11; subst e13
  (conv => whnf)
  refine VLoop.mk [6, 14] (fun x : Nat × List Int × Option Addr × Nat => match x with | (i, T, a5, c5) => [.slice a5 T.length c5, .int .i64 (i : Int)])
    (fun x H2 => x.1 ≤ l.length ∧ x.2.1.length ≤ x.1 * 1048576 ∧ (∀ p, p ∈ x.2.1 ↔ hopS a (· ∈ l.take x.1) b p) ∧ St H H2 [pS tIk 3 x.2.2.1 x.2.1.length x.2.2.2 x.2.1, pS tIk 3 ma l.length mc l]) (fun x _ => l.length - x.1) ?_ ?_
  · (conv => whnf)
    refine ⟨(0, [], none, 0), rfl, Nat.zero_le _, Nat.zero_le _, fun p => ⟨fun h => (by cases h), fun h => ?_⟩, st1⟩
    obtain ⟨e, -, -, -, h, -⟩ := h
    simp at h
  · rintro ⟨i, T, a5, c5⟩ H2 junk2 ⟨hi, hTl, hT, st2⟩
    simp only at hi hTl hT st2
    (conv => whnf); refine VIte.mk (fun hz => ?_) (fun hz => ?_) <;> simp only [decide_eq_true_eq, decide_eq_false_iff_not] at hz
    · obtain ⟨q, hq⟩ := get_some (l := l) (k := i) (by omega)
      have hqh := hl q (List.mem_of_getElem? hq)
      obtain ⟨row, hrow, hrl, hrm⟩ := takT_row hqh
      (conv => whnf); refine ixr (i := i) sl33 (st2.view 1 rfl) hq rfl ?_
      rintro b3 o3 c3 hS3 hc3 ⟨rfl, -⟩
      (conv => whnf); refine ld1 ct3 hc3.one trivial ?_
      (conv => whnf); refine ld1 ct128 ((hcell.eq (st2.old wb (hS wb hwb))).one) trivial ?_
      (conv => whnf); refine fa fl132_1 ?_
      (conv => whnf); refine ld1 (v := .slice ta (nstA a) tc) ct130 ((hcells.eq (st2.old nb (hS nb hnb))) 1 _ rfl) trivial ?_
      (conv => whnf); refine ixrn (i := q.toNat) sl130 (htak.frame (st2.old.mono hS)) (grp_len _ _ _).symm hrow (by have := NfM.has_iff.1 hqh; omega) ?_
      rintro b5 o5 cs5 hS5 hc5 ⟨ra, rc, rfl, hrd2⟩
      have hrd : SlD tEd S H2 ra rc row := hrd2
      (conv => whnf); refine ld1 ct56 hc5.one trivial ?_
      (conv => whnf)
      refine VLoop.mk [6, 26] (fun x : Nat × List Int × Option Addr × Nat => match x with | (j, T', a5, c5) => [.slice a5 T'.length c5, .int .i64 (j : Int)])
        (fun x H3 => x.1 ≤ row.length ∧ x.2.1.length ≤ i * 1048576 + x.1 ∧ (∀ p, p ∈ x.2.1 ↔ hopS a (· ∈ l.take i) b p ∨ ∃ e ∈ row.take x.1, e.set.getLsbD b = true ∧ p = e.to) ∧ St H H3 [pS tIk 3 x.2.2.1 x.2.1.length x.2.2.2 x.2.1, pS tIk 3 ma l.length mc l]) (fun x _ => row.length - x.1) ?_ ?_
      · (conv => whnf)
        exact ⟨(0, T, a5, c5), rfl, Nat.zero_le _, Nat.le_trans hTl (Nat.le_add_right _ _), fun p => by rw [hT p]; simp, st2⟩
      · rintro ⟨j, T', a6, c6⟩ H3 junk3 ⟨hj, hTl', hT', st3⟩
        simp only at hj hTl' hT' st3
        have hrd3 : SlD tEd S H3 ra rc row := htak_frame hrd st2 st3 hS
        (conv => whnf); refine VIte.mk (fun hz2 => ?_) (fun hz2 => ?_) <;> simp only [decide_eq_true_eq, decide_eq_false_iff_not] at hz2
        · obtain ⟨e, he⟩ := get_some (l := row) (k := j) (by omega)
          obtain ⟨hem, hes, hef, het⟩ := (hrm e).1 (List.mem_of_getElem? he)
          have htr := NfM.has_iff.1 het
          (conv => whnf); refine VSeq.run ?_
          (conv => whnf); refine ixr (i := j) sl56 hrd3 he rfl ?_
          rintro b6 o6 c7 hS6 hc6 ⟨rfl, hok⟩
          (conv => whnf); refine ldN (cs := edL e) ag75 hc6 trivial ?_
          (conv => whnf); refine valloc _ [.int .i64 0, .int .i64 0, .bool false, .int .u64 0, .int .u64 0, .int .u64 0, .int .u64 0] edge_z rfl ?_
          intro x H4 hx hs4 hb4 ha4
          have st4 := st3.box hx hs4 hb4 ha4
          (conv => whnf); refine stNB (cs := edL e) st4 2 rfl rfl (Nat.le_refl _) rfl fun H5 st5 => ?_
          rw [splice_all (show (edL e).length = 7 from rfl)] at st5
          (conv => whnf); refine fa fl75_3 ?_
          (conv => whnf); refine ldN (cs := setL e.set) ag73 ((st5.blk 2 rfl).cells fun j v hv => edL_set e j v hv) trivial ?_
          (conv => whnf); refine pures (has_c e.set b hb H5) fun H6 ha6 => ?_
          have st6 := st5.call ha6
          cases hbit : e.set.getLsbD b with
          | false =>
            (conv => whnf); rw [w64 (x := (j : Int) + 1) (by omega) (by omega)]
            refine ⟨rfl, (j + 1, T', a6, c6), by simp, ⟨by simp only; omega, by simp only; omega, fun p => ?_, st6.pick [0, 1] (by decide)⟩, by simp only; omega⟩
            simp only
            rw [hT' p, take_succ_snoc he]
            constructor
            · rintro (h | ⟨e', h1, h2, h3⟩)
              · exact .inl h
              · exact .inr ⟨e', List.mem_append_left _ h1, h2, h3⟩
            · rintro (h | ⟨e', h1, h2, h3⟩)
              · exact .inl h
              · rcases List.mem_append.1 h1 with h1 | h1
                · exact .inr ⟨e', h1, h2, h3⟩
                · rw [List.mem_singleton] at h1; subst h1; rw [hbit] at h2; cases h2
          | true =>
            (conv => whnf); refine fa fl75_1 ?_
            (conv => whnf); refine ld1 (v := .int .i64 e.to) ct3 (by rw [(st6.blk 2 rfl).cell]; rfl) trivial ?_
            (conv => whnf); refine vbuild1 sl33 [.int .i64 e.to] rfl rfl (by decide) (by decide) ?_
            intro q11 H11 hq11 hs11 hb11 ha11
            (conv => whnf); refine appL5 (ys := [e.to]) (st6.skip hq11 ha11) 0 sl33 rfl (hb11.cells (o := 0) (cs := [.int .i64 e.to]) fun j v hv => by rw [Nat.zero_add]; exact hv) (Ty.reps_one ⟨rfl, hok.2⟩) rfl (fun u hu => by cases List.mem_singleton.1 hu; rfl) (by simp only [List.length_cons, List.length_nil]; omega) (by decide) fun a12 c12 H12 st12 _ => ?_
            have el : T'.length + [e.to].length = (T' ++ [e.to]).length := by simp
            rw [el] at st12 ⊢
            (conv => whnf); rw [w64 (x := (j : Int) + 1) (by omega) (by omega)]
            refine ⟨rfl, (j + 1, T' ++ [e.to], a12, c12), by simp, ⟨by simp only; omega, by simp only [List.length_append, List.length_cons, List.length_nil]; omega, fun p => ?_, st12.pick [0, 1] (by decide)⟩, by simp only; omega⟩
            simp only
            rw [List.mem_append, hT' p, take_succ_snoc he, List.mem_singleton]
            constructor
            · rintro ((h | ⟨e', h1, h2, h3⟩) | h)
              · exact .inl h
              · exact .inr ⟨e', List.mem_append_left _ h1, h2, h3⟩
              · exact .inr ⟨e, by simp, hbit, h⟩
            · rintro (h | ⟨e', h1, h2, h3⟩)
              · exact .inl (.inl h)
              · rcases List.mem_append.1 h1 with h1 | h1
                · exact .inl (.inr ⟨e', h1, h2, h3⟩)
                · rw [List.mem_singleton] at h1; subst h1; exact .inr h3
        · obtain rfl : j = row.length := by omega
          rw [List.take_length] at hT'
          (conv => whnf); rw [w64 (x := (i : Int) + 1) (by omega) (by omega)]
          refine ⟨rfl, (i + 1, T', a6, c6), by simp, ⟨by simp only; omega, by simp only; omega, fun p => ?_, st3⟩, by simp only; omega⟩
          simp only
          rw [hT' p, take_succ_snoc hq]
          unfold hopS
          constructor
          · rintro (⟨e, h1, h2, h3, h4, h5, h6⟩ | ⟨e, h1, h2, h3⟩)
            · exact ⟨e, h1, h2, h3, List.mem_append_left _ h4, h5, h6⟩
            · obtain ⟨g1, g2, g3, g4⟩ := (hrm e).1 h1
              exact ⟨e, g1, g2, h2, by rw [g3]; simp, g4, h3⟩
          · rintro ⟨e, h1, h2, h3, h4, h5, h6⟩
            rcases List.mem_append.1 h4 with h4 | h4
            · exact .inl ⟨e, h1, h2, h3, h4, h5, h6⟩
            · rw [List.mem_singleton] at h4
              exact .inr ⟨e, (hrm e).2 ⟨h1, h2, h4, h5⟩, h3, h6⟩
    · obtain rfl : i = l.length := by omega
      rw [List.take_length] at hT
      have hTh : ∀ q ∈ T, a.has q = true := fun q hq => by
        obtain ⟨e, -, -, -, -, h5, rfl⟩ := (hT q).1 hq
        exact h5
      have hTeq : (fun q => q ∈ T) = hopS a (· ∈ l) b := funext fun q => propext (hT q)
      (conv => whnf); refine ld1 ct128 ((hcell.eq (st2.old wb (hS wb hwb))).one) trivial ?_
      have st9 : St H H2 [pS tIk 3 a5 T.length c5 T] := st2.pick [0] (by decide)
      have hmul : T.length ≤ 68719476736 := Nat.le_trans hTl (by have := Nat.mul_le_mul_right 1048576 hll; omega)
      (conv => whnf); refine VCall.mk (close_c st9 hS hv0 hTh hmul hel hpow) ?_
      rintro _ H3 ⟨rfl, ha3⟩
      (conv => whnf)
      refine ⟨?_, ha3⟩
      rw [hTeq]
      rfl
end Go.Proofs.YthomdogheamfpaaDoor
/- The document's table: settled: all that silent edges reach, as a rising list: the walk. -/
set_option linter.unusedVariables false
set_option linter.unusedSimpArgs false
set_option maxRecDepth 100000
namespace Go.VC
section
variable {B : Nat → Prop} {H0 H : Heap} {ps qs : List Pc} {p q : Pc}
/-- The last piece is put in front. -/
theorem StB.pre (st : StB B H0 H (ps ++ [p])) : StB B H0 H (p :: ps) := st.perm (List.perm_append_singleton p ps)
end
end Go.VC
namespace Go.Proofs.YthomdogheamfpaaDoor
open Go.VC
/-! ### marks -/
def mkM (n : Nat) (A : List Int) : List Bool := (List.range n).map fun (j : Nat) => decide ((j : Int) ∈ A)
theorem mkM_len (n : Nat) (A : List Int) : (mkM n A).length = n := by simp [mkM]
theorem mkM_get {n j : Nat} (A : List Int) (h : j < n) : (mkM n A)[j]? = some (decide ((j : Int) ∈ A)) := by
  unfold mkM
  rw [List.getElem?_map, List.getElem?_range h]
  rfl
theorem mkM_ext {n : Nat} {A A' : List Int} (h : ∀ j : Nat, j < n → ((j : Int) ∈ A ↔ (j : Int) ∈ A')) : mkM n A = mkM n A' := by
  unfold mkM
  exact List.map_congr_left fun j hj => decide_eq_decide.2 (h j (List.mem_range.1 hj))
theorem mkM_nil (n : Nat) : mkM n [] = List.replicate n false := by
  unfold mkM
  simp [List.map_const']
theorem mkM_put {n : Nat} {A : List Int} {q : Nat} {b : Bool} {A' : List Int} (h : q < n) (hb : b = decide ((q : Int) ∈ A')) (ho : ∀ j : Nat, j < n → j ≠ q → ((j : Int) ∈ A ↔ (j : Int) ∈ A')) : (mkM n A).set q b = mkM n A' := by
  apply List.ext_getElem?
  intro j
  by_cases hj : j < n
  · rw [mkM_get _ hj, List.getElem?_set, mkM_len]
    by_cases hjq : q = j
    · subst hjq
      rw [if_pos rfl, if_pos hj, hb]
    · rw [if_neg hjq, mkM_get _ hj]
      exact congrArg some (decide_eq_decide.2 (ho j hj (Ne.symm hjq)))
  · rw [List.getElem?_eq_none (by rw [List.length_set, mkM_len]; omega), List.getElem?_eq_none (by rw [mkM_len]; omega)]
theorem mkM_snoc {n q : Nat} (A : List Int) (h : q < n) : (mkM n A).set q true = mkM n (A ++ [(q : Int)]) :=
  mkM_put h (by simp) fun j hj hne => by
    rw [List.mem_append, List.mem_singleton]
    constructor
    · exact .inl
    · rintro (h | h)
      · exact h
      · omega
/-- A table with marks. -/
def tabS (nb tb n : Nat) (ma : Option Addr) (mc : Nat) (vt : List Value) (rows : List (List EdM)) (marks : List Bool) (rest : List Pc) : List Pc :=
  pB tTb nb (tbL n (.slice (some ⟨tb, 0, none⟩) n n) (.slice ma n mc)) :: pT tEdD 143 65 tb vt rows :: pS tBool 4 ma n mc marks :: rest
abbrev outT (a : NfM) : List (List EdM) := grp (nstA a) (keyO a) a.edges
theorem outT_row {a : NfM} {q : Int} (h : a.has q = true) : ∃ row, (outT a)[q.toNat]? = some row ∧ row.length ≤ a.edges.length ∧ ∀ e, e ∈ row ↔ e ∈ a.edges ∧ e.fr = q ∧ a.has e.to = true := by
  have hn : 0 ≤ q ∧ q < (nstA a : Int) := by
    have := has_n a q
    rw [h] at this
    simpa using this.symm
  refine ⟨_, grp_get _ _ (by omega), List.length_filterMap_le _ _, fun e => ?_⟩
  rw [List.mem_filterMap]
  constructor
  · rintro ⟨e', he, h1⟩
    unfold keyO okE at h1
    split at h1
    · rename_i hk
      simp only [Bool.and_eq_true] at hk
      rw [Option.bind_some] at h1
      have hfr := (NfM.has_iff.1 hk.1)
      split at h1
      · rename_i h2
        injection h1 with h1
        have h1 : e' = e := h1
        subst h1
        have h2 : e'.fr.toNat = q.toNat := h2
        exact ⟨he, by omega, hk.2⟩
      · cases h1
    · simp at h1
  · rintro ⟨h1, rfl, h3⟩
    refine ⟨e, h1, ?_⟩
    unfold keyO okE
    rw [h, h3]
    simp
theorem outT_len (a : NfM) : (outT a).length = nstA a := grp_len _ _ _
/-- All that has been found: nothing twice, all of it reached; the first i, and k ways of the next one, are done. -/
structure StlI (a : NfM) (X all : List Int) : Prop where
  nd : all.Nodup
  cl : ∀ q ∈ all, clS a (· ∈ X) q
theorem StlI.snoc {a : NfM} {X all : List Int} {q : Int} (h : StlI a X all) (hq : q ∉ all) (hc : clS a (· ∈ X) q) : StlI a X (all ++ [q]) :=
  ⟨List.nodup_append.2 ⟨h.nd, by simp, fun x hx y hy e => by rw [List.mem_singleton] at hy; subst hy; subst e; exact hq hx⟩, fun x hx => by
    rcases List.mem_append.1 hx with hx | hx
    · exact h.cl x hx
    · rw [List.mem_singleton] at hx; subst hx; exact hc⟩
theorem StlI.len {a : NfM} {X all : List Int} (h : StlI a X all) (hX : ∀ q ∈ X, a.has q = true) : all.length ≤ 65536 :=
  nodupI_len 65536 all h.nd fun q hq => has_rng (clS_has (X := (· ∈ X)) hX) q (h.cl q hq)
section
variable {B : Nat → Prop} {H0 H : Heap} {rest : List Pc} {nb tb mc lc : Nat} {ma la : Option Addr} {vt : List Value} {a : NfM} {X : List Int}
set_option maxHeartbeats 16000000 in
theorem settled_v {K : Value → Heap → Prop} (st : StB B H0 H (tabS nb tb (nstA a) ma mc vt (outT a) (mkM (nstA a) []) (pS tIk 3 la X.length lc X :: rest))) (hX : ∀ q ∈ X, a.has q = true) (hXl : X.length ≤ 68719476736) (hel : a.edges.length ≤ 1048576)
    (kK : ∀ ra rc H', StB B H0 H' (tabS nb tb (nstA a) ma mc vt (outT a) (mkM (nstA a) []) (pS tIk 3 ra (lstS (clS a (· ∈ X))).length rc (lstS (clS a (· ∈ X))) :: rest)) → K (.slice ra (lstS (clS a (· ∈ X))).length rc) H') :
    VCall Tryd.prog 78 #[.pointer (some ⟨nb, 0, none⟩), .slice la X.length lc] H K := by
  refine VCall.mk (R := fun r H' => ∃ ra rc, r = .slice ra (lstS (clS a (· ∈ X))).length rc ∧ StB B H0 H' (tabS nb tb (nstA a) ma mc vt (outT a) (mkM (nstA a) []) (pS tIk 3 ra (lstS (clS a (· ∈ X))).length rc (lstS (clS a (· ∈ X))) :: rest))) ?_ fun r H' h => by
    obtain ⟨ra, rc, rfl, h1⟩ := h
    exact kK ra rc H' h1
  unfold tabS at st ⊢
  have hnle := nstA_le a
  have hclh : ∀ q, clS a (· ∈ X) q → a.has q = true := clS_has (X := (· ∈ X)) hX
  have hhn : ∀ q : Int, a.has q = true → 0 ≤ q ∧ q < (nstA a : Int) ∧ q < 65536 := fun q hq => by
    have h1 := has_n a q
    rw [hq] at h1
    have h2 := h1.symm
    simp only [Bool.and_eq_true, decide_eq_true_eq] at h2
    omega
  refine FnOk.of_vc Tryd.func78 rfl (Tryd.call78 _) ?_
  have st0 := (st.nils tIk 3).pre
  obtain ⟨n, hn⟩ : ∃ n, n = nstA a := ⟨_, rfl⟩
  rw [← hn] at st0 hnle
  have hhn : ∀ q : Int, a.has q = true → 0 ≤ q ∧ q < (n : Int) ∧ q < 65536 := fun q hq => by rw [hn]; exact hhn q hq
  (conv => whnf)
  refine VLoop.mk [5, 6] (fun x : Nat × List Int × Option Addr × Nat => match x with | (i, all, aa, ac) => [.slice aa all.length ac, .int .i64 (i : Int)])
    (fun x H2 => match x with | (i, all, aa, ac) => i ≤ X.length ∧ StlI a X all ∧ (∀ x ∈ X.take i, x ∈ all) ∧ StB B H0 H2 (pS tIk 3 aa all.length ac all :: pB tTb nb (tbL n (.slice (some ⟨tb, 0, none⟩) n n) (.slice ma n mc)) :: pT tEdD 143 65 tb vt (outT a) :: pS tBool 4 ma n mc (mkM n all) :: pS tIk 3 la X.length lc X :: rest)) (fun x _ => X.length - x.1) ?_ ?_
  · (conv => whnf)
    exact ⟨(0, [], none, 0), rfl, Nat.zero_le _, ⟨by simp, (fun q h => by cases h)⟩, (fun x h => by cases h), st0⟩
  · rintro ⟨i, all, aa, ac⟩ H2 junk2 ⟨hi, hI, hin, st2⟩
    have hal := hI.len hX
    (conv => whnf); refine VIte.mk (fun hz => ?_) (fun hz => ?_) <;> simp only [decide_eq_true_eq, decide_eq_false_iff_not] at hz
    · obtain ⟨q, hq⟩ := get_some (l := X) (k := i) (by omega)
      have hqX := List.mem_of_getElem? hq
      obtain ⟨hq0, hq1, hq2⟩ := hhn q (hX q hqX)
      obtain ⟨y, rfl⟩ := Int.eq_ofNat_of_zero_le hq0
      have hyn : y < n := by omega
      obtain ⟨mb, rfl⟩ := st2.adr 3 rfl (by rw [mkM_len]; omega)
      have htk := take_succ_snoc hq
      (conv => whnf); refine VSeq.run ?_
      (conv => whnf); refine VDraw.lex rfl (by kernel_rfl) ?_
      (conv => whnf); refine fa fl151_2 ?_
      (conv => whnf); refine ld1 (v := .slice (some ⟨mb, 0, none⟩) n mc) ct24 (by rw [(st2.blk 1 rfl).cell]; rfl) trivial ?_
      (conv => whnf); refine ixO sl33 st2 4 rfl hq rfl ?_
      rintro b3 o3 c3 hS3 hc3 ⟨rfl, -⟩
      (conv => whnf); refine ld1 ct3 hc3.one trivial ?_
      (conv => whnf); refine ixO (j := y) sl24 st2 3 rfl (mkM_get all hyn) rfl ?_
      rintro b4 o4 c4 hS4 hc4 rfl
      (conv => whnf); refine ld1 ct4 hc4.one trivial ?_
      by_cases hm : (y : Int) ∈ all
      · have d1 : decide ((y : Int) ∈ all) = true := decide_eq_true hm
        (conv => whnf); rw [d1]
        (conv => whnf); rw [w64 (x := (i : Int) + 1) (by omega) (by omega)]
        refine ⟨rfl, (i + 1, all, aa, ac), by simp, ⟨by omega, hI, fun x hx => ?_, st2⟩, by simp only; omega⟩
        rw [htk, List.mem_append, List.mem_singleton] at hx
        rcases hx with hx | rfl
        · exact hin x hx
        · exact hm
      · have d1 : decide ((y : Int) ∈ all) = false := decide_eq_false hm
        (conv => whnf); rw [d1]
        (conv => whnf); refine VDraw.heldZ (Old H2) [9] (sq [0,1,2,3,4,5,6,7,8] (.f 9 .e)) rfl (by kernel_rfl) ?_
        (conv => whnf); refine fa fl151_2 ?_
        (conv => whnf); refine ld1 (v := .slice (some ⟨mb, 0, none⟩) n mc) ct24 (by rw [(st2.blk 1 rfl).cell]; rfl) (st2.in_ 1 rfl rfl).2 ?_
        (conv => whnf); refine ixO sl33 st2 4 rfl hq rfl ?_
        rintro b5 o5 c5 hS5 hc5 ⟨rfl, -⟩
        (conv => whnf); refine ld1 ct3 hc5.one hS5 ?_
        (conv => whnf); refine ix sl24 (by omega) (by omega) ?_
        (conv => whnf); refine st1O (j := y) (x := true) st2 3 ct4 rfl rfl (by omega) (by rw [mkM_len]; exact hyn) rfl (fun H' _ => rfl) fun H3 st3 => ?_
        rw [mkM_snoc all hyn] at st3
        replace st3 := st3
        (conv => whnf); refine ixO sl33 st3 4 rfl hq rfl ?_
        rintro b6 o6 c6 hS6 hc6 ⟨rfl, -⟩
        (conv => whnf); refine ld1 ct3 hc6.one trivial ?_
        (conv => whnf); refine vbuild1 sl33 [.int .i64 (y : Int)] rfl rfl (by decide) (by decide) ?_
        intro q7 H7 hq7 hs7 hb7 ha7
        (conv => whnf); refine app1 (x := (y : Int)) (st3.skip hq7 ha7) 0 sl33 rfl hb7 ⟨rfl, kint ⟨by omega, hq2⟩⟩ rfl (by omega) (by decide) fun a8 c8 H8 st8 _ => ?_
        (conv => whnf); rw [w64 (x := (i : Int) + 1) (by omega) (by omega)]
        refine ⟨rfl, (i + 1, all ++ [(y : Int)], a8, c8), by simp, ⟨by omega, hI.snoc hm (clS_in hqX), fun x hx => ?_, by simpa using st8⟩, by simp only; omega⟩
        rw [htk, List.mem_append, List.mem_singleton] at hx
        rcases hx with hx | rfl
        · exact List.mem_append_left _ (hin x hx)
        · exact List.mem_append_right _ (List.mem_singleton.2 rfl)
    · obtain rfl : i = X.length := by omega
      rw [List.take_length] at hin
      (conv => whnf)
      refine VLoop.mk [5, 7] (fun x : Nat × List Int × Option Addr × Nat => match x with | (i, all, aa, ac) => [.slice aa all.length ac, .int .i64 (i : Int)])
        (fun x H2 => match x with | (i, all, aa, ac) => i ≤ all.length ∧ StlI a X all ∧ (∀ x ∈ X, x ∈ all) ∧ (∀ p ∈ all.take i, ∀ e ∈ a.edges, e.sil = true → e.fr = p → a.has e.to = true → e.to ∈ all) ∧ StB B H0 H2 (pS tIk 3 aa all.length ac all :: pB tTb nb (tbL n (.slice (some ⟨tb, 0, none⟩) n n) (.slice ma n mc)) :: pT tEdD 143 65 tb vt (outT a) :: pS tBool 4 ma n mc (mkM n all) :: pS tIk 3 la X.length lc X :: rest)) (fun x _ => 65536 - x.1) ?_ ?_
      · (conv => whnf)
        exact ⟨(0, all, aa, ac), rfl, Nat.zero_le _, hI, hin, (fun p hp => by cases hp), st2⟩
      · clear hin hz hal hI hi st2
        rintro ⟨i, all, aa, ac⟩ H3 junk3 ⟨hi, hI, hin, hcl, st3⟩
        have hal := hI.len hX
        (conv => whnf); refine VIte.mk (fun hz => ?_) (fun hz => ?_) <;> simp only [decide_eq_true_eq, decide_eq_false_iff_not] at hz
        · obtain ⟨q, hq⟩ := get_some (l := all) (k := i) (by omega)
          have hqh := hclh q (hI.cl q (List.mem_of_getElem? hq))
          obtain ⟨row, hrow, hrl, hrm⟩ := outT_row hqh
          obtain ⟨hq0, hq1, hq2⟩ := hhn q hqh
          obtain ⟨ra, rc, hvr, -⟩ := st3.row 2 rfl hrow
          (conv => whnf); refine VDraw.lex rfl (by kernel_rfl) ?_
          (conv => whnf); refine fa fl151_1 ?_
          (conv => whnf); refine ld1 (v := .slice (some ⟨tb, 0, none⟩) n n) ct149 (by rw [(st3.blk 1 rfl).cell]; rfl) trivial ?_
          (conv => whnf); refine ixO sl33 st3 0 rfl hq rfl ?_
          rintro b3 o3 c3 hS3 hc3 ⟨rfl, -⟩
          (conv => whnf); refine ld1 ct3 hc3.one trivial ?_
          (conv => whnf); refine ix sl149 (by omega) (by omega) ?_
          (conv => whnf); refine ld1 ct65 (st3.tcell 2 rfl hvr (by rw [Nat.zero_add, Nat.mul_one])) trivial ?_
          (conv => whnf)
          refine VLoop.mk [5, 9] (fun x : Nat × List Int × Option Addr × Nat => match x with | (k, all2, aa, ac) => [.slice aa all2.length ac, .int .i64 (k : Int)])
            (fun x H2 => match x with | (k, all2, aa, ac) => k ≤ row.length ∧ StlI a X all2 ∧ all <+: all2 ∧ (∀ e ∈ row.take k, e.sil = true → e.to ∈ all2) ∧ StB B H0 H2 (pS tIk 3 aa all2.length ac all2 :: pB tTb nb (tbL n (.slice (some ⟨tb, 0, none⟩) n n) (.slice ma n mc)) :: pT tEdD 143 65 tb vt (outT a) :: pS tBool 4 ma n mc (mkM n all2) :: pS tIk 3 la X.length lc X :: rest)) (fun x _ => row.length - x.1) ?_ ?_
          · (conv => whnf)
            exact ⟨(0, all, aa, ac), rfl, Nat.zero_le _, hI, List.prefix_refl _, (fun e h => by cases h), st3⟩
          · rintro ⟨k, all2, aa2, ac2⟩ H4 junk4 ⟨hk, hI2, hpre, hrk, st4⟩
            have hal2 := hI2.len hX
            obtain ⟨ra', rc', hvr', hrd⟩ := st4.row 2 rfl hrow
            rw [hvr] at hvr'
            injection hvr' with e0
            injection e0 with e1 e2 e3
            subst e1; subst e3
            have hx2 := pre_get hpre hq
            (conv => whnf); refine VIte.mk (fun hz2 => ?_) (fun hz2 => ?_) <;> simp only [decide_eq_true_eq, decide_eq_false_iff_not] at hz2
            · obtain ⟨e, he⟩ := get_some (l := row) (k := k) (by omega)
              have heR := (hrm e).1 (List.mem_of_getElem? he)
              obtain ⟨ht0, ht1, ht2⟩ := hhn e.to heR.2.2
              obtain ⟨y, hy⟩ : ∃ y : Nat, e.to = (y : Int) := ⟨e.to.toNat, by omega⟩
              have hyn : y < n := by omega
              obtain ⟨mb, rfl⟩ := st4.adr 3 rfl (by rw [mkM_len]; omega)
              have htk := take_succ_snoc he
              have done : ∀ all3 : List Int, all2 <+: all3 → (e.sil = true → e.to ∈ all3) → ∀ e' ∈ row.take (k + 1), e'.sil = true → e'.to ∈ all3 := fun all3 h1 h2 e' he' hs => by
                rw [htk, List.mem_append, List.mem_singleton] at he'
                rcases he' with he' | rfl
                · exact h1.subset (hrk e' he' hs)
                · exact h2 hs
              (conv => whnf); refine VSeq.run ?_
              (conv => whnf); refine VDraw.lex rfl (by kernel_rfl) ?_
              (conv => whnf); refine ixr (i := k) sl65 hrd he rfl ?_
              rintro b5 o5 c5 hS5 hc5 ⟨rfl, -⟩
              (conv => whnf); refine fa fl143_2 ?_
              (conv => whnf); refine ld1 (v := .bool e.sil) ct4 (hc5 2 _ rfl) trivial ?_
              cases hsil : e.sil with
              | false =>
                (conv => whnf); rw [w64 (x := (k : Int) + 1) (by omega) (by omega)]
                exact ⟨rfl, (k + 1, all2, aa2, ac2), by simp, ⟨by omega, hI2, hpre, done all2 (List.prefix_refl _) fun h => (by rw [hsil] at h; cases h), st4⟩, by simp only; omega⟩
              | true =>
                (conv => whnf); refine fa fl151_2 ?_
                (conv => whnf); refine ld1 (v := .slice (some ⟨mb, 0, none⟩) n mc) ct24 (by rw [(st4.blk 1 rfl).cell]; rfl) trivial ?_
                (conv => whnf); refine ixr (i := k) sl65 hrd he rfl ?_
                rintro b6 o6 c6 hS6 hc6 ⟨rfl, -⟩
                (conv => whnf); refine fa fl143_1 ?_
                (conv => whnf); refine ld1 (v := .int .i64 e.to) ct3 (hc6 1 _ rfl) trivial ?_
                (conv => whnf); refine ixO (j := y) sl24 st4 3 rfl (mkM_get all2 hyn) hy ?_
                rintro b7 o7 c7 hS7 hc7 rfl
                (conv => whnf); refine ld1 ct4 hc7.one trivial ?_
                by_cases hm : (y : Int) ∈ all2
                · have d1 : decide ((y : Int) ∈ all2) = true := decide_eq_true hm
                  (conv => whnf); rw [d1]
                  (conv => whnf); rw [w64 (x := (k : Int) + 1) (by omega) (by omega)]
                  exact ⟨rfl, (k + 1, all2, aa2, ac2), by simp, ⟨by omega, hI2, hpre, done all2 (List.prefix_refl _) fun _ => hy ▸ hm, st4⟩, by simp only; omega⟩
                · have d1 : decide ((y : Int) ∈ all2) = false := decide_eq_false hm
                  (conv => whnf); rw [d1]
                  (conv => whnf); refine VDraw.heldZ (Old H4) [10] (sq [0,1,2,3,4,5,6,7,8,9] (.f 10 .e)) rfl (by kernel_rfl) ?_
                  (conv => whnf); refine fa fl151_2 ?_
                  (conv => whnf); refine ld1 (v := .slice (some ⟨mb, 0, none⟩) n mc) ct24 (by rw [(st4.blk 1 rfl).cell]; rfl) (st4.in_ 1 rfl rfl).2 ?_
                  (conv => whnf); refine ixr (i := k) sl65 hrd he rfl ?_
                  rintro b8 o8 c8 hS8 hc8 ⟨rfl, -⟩
                  (conv => whnf); refine fa fl143_1 ?_
                  (conv => whnf); refine ld1 (v := .int .i64 e.to) ct3 (hc8 1 _ rfl) hS8 ?_
                  (conv => whnf); refine ix sl24 (by omega) (by omega) ?_
                  (conv => whnf); refine st1O (j := y) (x := true) st4 3 ct4 rfl rfl (by omega) (by rw [mkM_len]; exact hyn) rfl (fun H' _ => rfl) fun H9 st9 => ?_
                  rw [mkM_snoc all2 hyn] at st9
                  obtain ⟨ra', rc', hvr', hrd9⟩ := st9.row 2 rfl hrow
                  rw [hvr] at hvr'
                  injection hvr' with e0
                  injection e0 with e1 e2 e3
                  subst e1; subst e3
                  (conv => whnf); refine ixr (i := k) sl65 hrd9 he rfl ?_
                  rintro b10 o10 c10 hS10 hc10 ⟨rfl, -⟩
                  (conv => whnf); refine fa fl143_1 ?_
                  (conv => whnf); refine ld1 (v := .int .i64 e.to) ct3 (hc10 1 _ rfl) trivial ?_
                  (conv => whnf); refine vbuild1 sl33 [.int .i64 e.to] rfl rfl (by decide) (by decide) ?_
                  intro q11 H11 hq11 hs11 hb11 ha11
                  (conv => whnf); refine app1 (x := (y : Int)) (st9.skip hq11 ha11) 0 sl33 rfl hb11 ⟨by rw [hy], kint ⟨by omega, by omega⟩⟩ rfl (by omega) (by decide) fun a12 c12 H12 st12 _ => ?_
                  (conv => whnf); rw [w64 (x := (k : Int) + 1) (by omega) (by omega)]
                  refine ⟨rfl, (k + 1, all2 ++ [(y : Int)], a12, c12), by simp, ⟨by omega, hI2.snoc hm (hy ▸ clS_shut a _ e heR.1 hsil heR.2.2 (by rw [heR.2.1]; exact hI2.cl q (List.mem_of_getElem? hx2))), hpre.trans (List.prefix_append _ _), done _ (List.prefix_append _ _) fun _ => hy ▸ List.mem_append_right _ (List.mem_singleton.2 rfl), by simpa using st12⟩, by simp only; omega⟩
            · obtain rfl : k = row.length := by omega
              rw [List.take_length] at hrk
              have hle2 := hpre.length_le
              have htk2 : all2.take (i + 1) = all.take i ++ [q] := by
                rw [take_succ_snoc hx2]
                obtain ⟨t, rfl⟩ := hpre
                rw [List.take_append_of_le_length hi]
              (conv => whnf); rw [w64 (x := (i : Int) + 1) (by omega) (by omega)]
              refine ⟨rfl, (i + 1, all2, aa2, ac2), by simp, ⟨by omega, hI2, fun x hx => hpre.subset (hin x hx), fun p hp e he h1 h2 h3 => ?_, st4⟩, by simp only; omega⟩
              rw [htk2, List.mem_append, List.mem_singleton] at hp
              rcases hp with hp | rfl
              · exact hpre.subset (hcl p hp e he h1 h2 h3)
              · exact hrk e ((hrm e).2 ⟨he, h2, h3⟩) h1
        · obtain rfl : i = all.length := by omega
          rw [List.take_length] at hcl
          have hall : ∀ q, q ∈ all ↔ clS a (· ∈ X) q := fun q => ⟨hI.cl q, clS_least (Y := (· ∈ all)) hin (fun e he h1 h2 h3 => hcl e.fr h3 e he h1 rfl h2) q⟩
          have hrngA : ∀ q ∈ all, 0 ≤ q ∧ q < (n : Int) ∧ q < 65536 := fun q hq => hhn q (hclh q (hI.cl q hq))
          (conv => whnf); refine fa fl151_0 ?_
          (conv => whnf); refine ld1 (v := .int .i64 (n : Int)) ct3 (by rw [(st3.blk 1 rfl).cell]; rfl) trivial ?_
          (conv => whnf)
          refine VLoop.mk [10, 11, 12] (fun x : Nat × Int × Int => match x with | (i, lo, hi) => [.int .i64 lo, .int .i64 hi, .int .i64 (i : Int)])
            (fun x H2 => match x with | (i, lo, hi) => i ≤ all.length ∧ 0 ≤ lo ∧ lo ≤ (n : Int) ∧ -1 ≤ hi ∧ hi < (n : Int) ∧ (∀ x ∈ all.take i, lo ≤ x ∧ x ≤ hi) ∧ StB B H0 H2 (pS tIk 3 aa all.length ac all :: pB tTb nb (tbL n (.slice (some ⟨tb, 0, none⟩) n n) (.slice ma n mc)) :: pT tEdD 143 65 tb vt (outT a) :: pS tBool 4 ma n mc (mkM n all) :: pS tIk 3 la X.length lc X :: rest)) (fun x _ => all.length - x.1) ?_ ?_
          · (conv => whnf)
            exact ⟨(0, (n : Int), -1), rfl, Nat.zero_le _, by omega, by omega, by omega, by omega, (fun x h => by cases h), st3⟩
          · rintro ⟨i, lo, hi⟩ H4 junk4 ⟨hil, hlo0, hlo1, hhi0, hhi1, hbd, st4⟩
            (conv => whnf); refine VIte.mk (fun hz2 => ?_) (fun hz2 => ?_) <;> simp only [decide_eq_true_eq, decide_eq_false_iff_not] at hz2
            · obtain ⟨q, hq⟩ := get_some (l := all) (k := i) (by omega)
              have hqr := hrngA q (List.mem_of_getElem? hq)
              (conv => whnf); refine ixO sl33 st4 0 rfl hq rfl ?_
              rintro b5 o5 c5 hS5 hc5 ⟨rfl, -⟩
              (conv => whnf); refine ld1 ct3 hc5.one trivial ?_
              (conv => whnf); refine vmin_ ?_
              (conv => whnf); refine ixO sl33 st4 0 rfl hq rfl ?_
              rintro b6 o6 c6 hS6 hc6 ⟨rfl, -⟩
              (conv => whnf); refine ld1 ct3 hc6.one trivial ?_
              (conv => whnf); refine vmax_ ?_
              (conv => whnf); rw [w64 (x := (i : Int) + 1) (by omega) (by omega)]
              refine ⟨rfl, (i + 1, (if q < lo then q else lo), (if hi < q then q else hi)), by simp, ⟨by omega, ?_, ?_, ?_, ?_, fun x hx => ?_, st4⟩, by simp only; omega⟩
              · split <;> omega
              · split <;> omega
              · split <;> omega
              · split <;> omega
              · rw [take_succ_snoc hq, List.mem_append, List.mem_singleton] at hx
                rcases hx with hx | rfl
                · have := hbd x hx
                  constructor <;> split <;> omega
                · constructor <;> split <;> omega
            · obtain rfl : i = all.length := by omega
              rw [List.take_length] at hbd
              have st5 := (st4.nils tIk 3).pre
              have hm0 : mkM n all = mkM n (all.filter fun x => decide (lo ≤ x)) := mkM_ext fun j hj => by
                rw [List.mem_filter, decide_eq_true_eq]
                exact ⟨fun h => ⟨h, (hbd _ h).1⟩, fun h => h.1⟩
              rw [hm0] at st5
              (conv => whnf)
              refine VLoop.mk [13, 14] (fun x : Int × List Int × Option Addr × Nat => match x with | (q, out, oa, oc) => [.slice oa out.length oc, .int .i64 q])
                (fun x H2 => match x with | (q, out, oa, oc) => lo ≤ q ∧ (q ≤ hi + 1 ∨ q = lo) ∧ out.Pairwise (· < ·) ∧ (∀ x, x ∈ out ↔ x ∈ all ∧ x < q) ∧ StB B H0 H2 (pS tIk 3 oa out.length oc out :: pS tIk 3 aa all.length ac all :: pB tTb nb (tbL n (.slice (some ⟨tb, 0, none⟩) n n) (.slice ma n mc)) :: pT tEdD 143 65 tb vt (outT a) :: pS tBool 4 ma n mc (mkM n (all.filter fun x => decide (q ≤ x))) :: pS tIk 3 la X.length lc X :: rest)) (fun x _ => (hi + 1 - x.1).toNat) ?_ ?_
              · (conv => whnf)
                exact ⟨(lo, [], none, 0), rfl, Int.le_refl _, .inr rfl, List.Pairwise.nil, fun x => ⟨fun h => (by cases h), fun h => by have := (hbd x h.1).1; omega⟩, st5⟩
              · rintro ⟨q, out, oa, oc⟩ H6 junk6 ⟨hq0, hq1, hsrt, hmem, st6⟩
                (conv => whnf); refine VIte.mk (fun hz3 => ?_) (fun hz3 => ?_) <;> simp only [decide_eq_true_eq, decide_eq_false_iff_not] at hz3
                · obtain ⟨y, rfl⟩ := Int.eq_ofNat_of_zero_le (show 0 ≤ q by omega)
                  have hyn : y < n := by omega
                  obtain ⟨mb, rfl⟩ := st6.adr 4 rfl (by rw [mkM_len]; omega)
                  have hol : out.length ≤ 65536 := nodupI_len 65536 out (hsrt.imp fun h => by omega) fun x hx => by have := hrngA x ((hmem x).1 hx).1; omega
                  (conv => whnf); refine VSeq.run ?_
                  (conv => whnf); refine fa fl151_2 ?_
                  (conv => whnf); refine ld1 (v := .slice (some ⟨mb, 0, none⟩) n mc) ct24 (by rw [(st6.blk 2 rfl).cell]; rfl) trivial ?_
                  (conv => whnf); refine ixO (j := y) sl24 st6 4 rfl (mkM_get _ hyn) rfl ?_
                  rintro b7 o7 c7 hS7 hc7 rfl
                  (conv => whnf); refine ld1 ct4 hc7.one trivial ?_
                  by_cases hm : (y : Int) ∈ all
                  · have d1 : decide ((y : Int) ∈ all.filter fun x => decide ((y : Int) ≤ x)) = true := decide_eq_true (by rw [List.mem_filter, decide_eq_true_eq]; exact ⟨hm, Int.le_refl _⟩)
                    (conv => whnf); rw [d1]
                    (conv => whnf); refine vbuild1 sl33 [.int .i64 (y : Int)] rfl rfl (by decide) (by decide) ?_
                    intro q8 H8 hq8 hs8 hb8 ha8
                    (conv => whnf); refine app1 (x := (y : Int)) (st6.skip hq8 ha8) 0 sl33 rfl hb8 ⟨rfl, kint ⟨by omega, by omega⟩⟩ rfl (by omega) (by decide) fun a9 c9 H9 st9 _ => ?_
                    (conv => whnf); refine fa fl151_2 ?_
                    (conv => whnf); refine ld1 (v := .slice (some ⟨mb, 0, none⟩) n mc) ct24 (by rw [(st9.blk 2 rfl).cell]; rfl) trivial ?_
                    (conv => whnf); refine ix sl24 (by omega) (by omega) ?_
                    (conv => whnf); refine st1O (j := y) (x := false) st9 4 ct4 rfl rfl (by omega) (by rw [mkM_len]; exact hyn) rfl (fun H' _ => rfl) fun H10 st10 => ?_
                    have hm1 : (mkM n (all.filter fun x => decide ((y : Int) ≤ x))).set y false = mkM n (all.filter fun x => decide ((y : Int) + 1 ≤ x)) := mkM_put hyn (decide_eq_false fun h => by rw [List.mem_filter, decide_eq_true_eq] at h; have := h.2; omega).symm fun j hj hne => by
                      rw [List.mem_filter, List.mem_filter, decide_eq_true_eq, decide_eq_true_eq]
                      constructor
                      · rintro ⟨h1, h2⟩; exact ⟨h1, by omega⟩
                      · rintro ⟨h1, h2⟩; exact ⟨h1, by omega⟩
                    rw [hm1] at st10
                    (conv => whnf); rw [w64 (x := (y : Int) + 1) (by omega) (by omega)]
                    refine ⟨rfl, ((y : Int) + 1, out ++ [(y : Int)], a9, c9), by simp, ⟨by omega, .inl (by omega), ?_, fun x => ?_, by simpa using st10⟩, by simp only; omega⟩
                    · rw [List.pairwise_append]
                      exact ⟨hsrt, List.pairwise_singleton _ _, fun x hx z hz => by rw [List.mem_singleton] at hz; subst hz; exact ((hmem x).1 hx).2⟩
                    · rw [List.mem_append, List.mem_singleton, hmem x]
                      constructor
                      · rintro (⟨h1, h2⟩ | rfl)
                        · exact ⟨h1, by omega⟩
                        · exact ⟨hm, by omega⟩
                      · rintro ⟨h1, h2⟩
                        by_cases hxy : x = (y : Int)
                        · exact .inr hxy
                        · exact .inl ⟨h1, by omega⟩
                  · have d1 : decide ((y : Int) ∈ all.filter fun x => decide ((y : Int) ≤ x)) = false := decide_eq_false (by rw [List.mem_filter]; exact fun h => hm h.1)
                    (conv => whnf); rw [d1]
                    have hm1 : mkM n (all.filter fun x => decide ((y : Int) ≤ x)) = mkM n (all.filter fun x => decide ((y : Int) + 1 ≤ x)) := mkM_ext fun j hj => by
                      rw [List.mem_filter, List.mem_filter, decide_eq_true_eq, decide_eq_true_eq]
                      constructor
                      · rintro ⟨h1, h2⟩
                        refine ⟨h1, ?_⟩
                        by_cases hjy : (j : Int) = (y : Int)
                        · rw [hjy] at h1; exact absurd h1 hm
                        · omega
                      · rintro ⟨h1, h2⟩; exact ⟨h1, by omega⟩
                    rw [hm1] at st6
                    (conv => whnf); rw [w64 (x := (y : Int) + 1) (by omega) (by omega)]
                    refine ⟨rfl, ((y : Int) + 1, out, oa, oc), by simp, ⟨by omega, .inl (by omega), hsrt, fun x => ?_, st6⟩, by simp only; omega⟩
                    rw [hmem x]
                    constructor
                    · rintro ⟨h1, h2⟩; exact ⟨h1, by omega⟩
                    · rintro ⟨h1, h2⟩
                      refine ⟨h1, ?_⟩
                      by_cases hxy : x = (y : Int)
                      · rw [hxy] at h1; exact absurd h1 hm
                      · omega
                · have hout : out = lstS (clS a (· ∈ X)) := lstS_uniq (fun q hq => has_rng hclh q hq) hsrt fun x => by
                    rw [hmem x, ← hall x]
                    exact ⟨fun h => h.1, fun h => ⟨h, by have := hbd x h; omega⟩⟩
                  have hmz : mkM n (all.filter fun x => decide (q ≤ x)) = mkM n [] := mkM_ext fun j hj => by
                    rw [List.mem_filter, decide_eq_true_eq]
                    exact ⟨fun h => by have := hbd _ h.1; omega, fun h => by cases h⟩
                  rw [hmz] at st6
                  subst hout
                  (conv => whnf)
                  refine ⟨oa, oc, rfl, ?_⟩
                  rw [← hn]
                  refine (st6.sub ?_).perm (List.perm_middle (l₁ := [_, _, _])).symm
                  exact ((((((List.Sublist.refl rest).cons _).cons_cons _).cons_cons _).cons_cons _).cons _).cons_cons _
end
end Go.Proofs.YthomdogheamfpaaDoor
/- The explorer: at, Explore: the walks. -/
set_option linter.unusedVariables false
set_option linter.unusedSimpArgs false
set_option maxRecDepth 100000
namespace Go.VC
section
variable {α : Type} {T : Ty α} {e e2 : TypeId} {a ra : Option Addr} {n cap rn rc : Nat} {xs : List (List α)} {row : List α} {B S : Nat → Prop} {H0 H : Heap} {ps rest : List Pc}
/-- A row joins the data of a list of rows. -/
theorem StB.absorb (st : StB B H0 H (pN (tSl T) S e a n cap xs :: pS T e2 ra rn rc row :: rest)) : StB B H0 H (pN (tSl T) (fun k => S k ∨ slB (.slice ra rn rc) k) e a n cap xs :: rest) := by
  have hap := st.apart2 (i := 0) (j := 1) rfl rfl (by decide)
  have h0 := st.at_ 0 rfl
  refine (st.join 0 1 rfl rfl (by decide)).say 0 rfl _ ⟨h0.1.mono fun k hk => .inl hk, fun k hk => ?_⟩ fun k hk => ?_
  · rcases hk with hk | hk
    · exact h0.2 k hk
    · exact fun h => hap k (.inl h) (.inl hk)
  · rcases hk with hk | hk | hk
    · exact .inl (.inl hk)
    · exact .inl (.inr hk)
    · exact .inr (.inl hk)
/-- append of one row whose data lie in S. -/
theorem appNO {P : Program} {t ty q by_ m cap2 : Nat} {z : Value} {ds : List Value} {K : Value → Heap → Prop} (st : StB B H0 H (pN (tSl T) S e a n cap xs :: rest)) (ht : SlT P t e (tSl T).size by_ z)
    (hd : Cells H q 0 ds) (hy : (tSl T).rep S H ds row) (hm : m = 1) (h1 : ∀ u ∈ ds, u.oneCell' = true) (h63 : xs.length + 1 ≤ 4194304) (hby : by_ ≤ 1024)
    (k : ∀ a' cap' H', StB B H0 H' (pN (tSl T) S e a' (xs.length + 1) cap' (xs ++ [row]) :: rest) → K (.slice a' (xs.length + 1) cap') H') :
    VEff P (Builtin.append_ #[t, t] ty [.slice a n cap, .slice (some ⟨q, 0, none⟩) m cap2].toArray) H K := by
  subst hm
  have h0 := st.at_ 0 rfl
  refine vappendO (T := tSl T) (S := S) (lo := 0) (ys := [row]) ht h0.1 (Nat.zero_le _) (fun k hk => ⟨(st.in_ 0 rfl (.inr hk)).2, h0.2 k hk⟩) hd (Ty.reps_one hy) rfl h1 (by unfold maxLen; simp only [List.length_singleton]; omega) (by have := Nat.mul_le_mul h63 hby; simp only [List.length_singleton]; omega) ?_
  intro v' H' hown hagr hsz hfr
  obtain ⟨a', cap', rfl⟩ := hown.hull
  rw [List.length_append, List.length_singleton] at hown hfr ⊢
  refine k a' cap' H' (st.upd 0 rfl (hagr.mono fun k hk => ⟨hk.1, fun hb => hk.2 (.inl hb)⟩) _ ⟨hown, fun k hk hb => ?_⟩ (fun k hk => ?_) (fun k hk => ?_) hsz)
  · rcases hfr k hb with h | h
    · exact h0.2 k hk h
    · have := (st.in_ 0 rfl (.inr hk)).2
      omega
  · rcases hk with hk | hk
    · rcases hfr k hk with h | h
      · exact .inl (.inl h)
      · exact .inr h
    · exact .inl (.inr hk)
  · rcases hk with hk | hk
    · exact (hown.lt hk).2
    · have := (st.in_ 0 rfl (.inr hk)).2
      omega
end
end Go.VC
namespace Go.Proofs.YthomdogheamfpaaDoor
open Go.VC
set_option maxHeartbeats 4000000 in
theorem final5_p {S : Nat → Prop} {H : Heap} {a : NfM} {l : List Int} {nb : Nat} {sv : Value} (hS : ∀ k, S k → k < H.size) (hnb : S nb) (hc : Cells H nb 0 (nfL a sv)) (hl : ∀ q ∈ l, 0 ≤ q ∧ q < 65536) (hll : l.length ≤ 65536) :
    Pure Tryd.prog 73 #[.string (nmB l), .pointer (some ⟨nb, 0, none⟩)] H (.bool (decide (a.fin ∈ l))) := by
  refine FnOk.of_vc Tryd.func73 rfl (Tryd.call73 _) ?_
  have st0 := St.nil H
  (conv => whnf); refine VDraw.heldZ (Old H) [] (sq [0,2,3] (.f 1 (.f 4 (.f 5 .e)))) rfl (by kernel_rfl) ?_
  (conv => whnf); refine fa fl58_2 ?_
  (conv => whnf); refine ld1 (v := .int .i64 a.fin) ct3 (hc 2 _ rfl) (hS nb hnb) ?_
  (conv => whnf); refine VCall.mk (members_c hl hll H) ?_
  rintro _ H1 ⟨ha1, ma, mc, rfl, hown1⟩
  obtain ⟨_, _, e1, st1⟩ := st0.got ha1 hown1
  injection e1 with e11 e12 e13
  subst e11; subst e13
  refine ⟨ha1, ?_⟩
  (conv => whnf); refine pures (contains5_p (q := a.fin) (fun k hk => hk) (st1.view 0 rfl)) fun H2 ha2 => ?_
  have st2 := st1.call ha2
  have g2 : Agr (Old H) H H2 := ha1.trans (ha2.mono fun k hk => old_lt ha1 hk)
  refine ⟨g2, ?_⟩
  (conv => whnf)
  refine ⟨g2, ?_⟩
  (conv => whnf)
  exact ⟨rfl, st2.old⟩
/-! ### at -/
abbrev tEx : TypeId := 192
def exL (mb : Nat) (fv : Value) (most : Nat) : List Value := [.map (some mb), fv, .int .i64 (most : Int)]
def exM (F : List (List Int)) (s : ByteArray) : Option Value := (F.findIdx? fun k => decide (nmB k = s)).map fun (i : Nat) => .int .i64 (i : Int)
theorem mapSI : MapTW Tryd.prog 166 9 3 (.int .i64 0) := ⟨rfl, rfl⟩
theorem keySW : KeyW Tryd.prog 9 (anyK (α := ByteArray)) Value.string := KeyW.ofE Tryd.underlying9 Go.VC.keyS
def RngF (F : List (List Int)) : Prop := ∀ l ∈ F, (∀ q ∈ l, 0 ≤ q ∧ q < 65536) ∧ l.length ≤ 65536
theorem find_name {F : List (List Int)} (hF : RngF F) {k : List Int} (hk : ∀ q ∈ k, 0 ≤ q ∧ q < 65536) : (F.findIdx? fun l => decide (nmB l = nmB k)) = F.findIdx? (· = k) := by
  induction F with
  | nil => rfl
  | cons l F ih =>
    have h1 : decide (nmB l = nmB k) = decide (l = k) := decide_eq_decide.2 ⟨fun h => nmB_inj (hF l (by simp)).1 hk h, fun h => by rw [h]⟩
    rw [List.findIdx?_cons, List.findIdx?_cons, h1, ih fun m hm => hF m (List.mem_cons_of_mem _ hm)]
theorem exM_put {F : List (List Int)} {k : List Int} (hno : (F.findIdx? fun l => decide (nmB l = nmB k)) = none) : put (exM F) (nmB k) (some (.int .i64 (F.length : Int))) = exM (F ++ [k]) := by
  funext s
  unfold put exM
  rw [List.findIdx?_append]
  by_cases hs : s = nmB k
  · subst hs
    rw [if_pos rfl, hno]
    simp [List.findIdx?_cons]
  · rw [if_neg hs]
    cases h : F.findIdx? fun l => decide (nmB l = s) with
    | some i => simp
    | none =>
      have : nmB k ≠ s := fun e => hs e.symm
      simp [List.findIdx?_cons, this]
theorem exM_get {F : List (List Int)} (hF : RngF F) {k : List Int} (hk : ∀ q ∈ k, 0 ≤ q ∧ q < 65536) : exM F (nmB k) = (F.findIdx? (· = k)).map fun (i : Nat) => .int .i64 (i : Int) := by
  unfold exM
  rw [find_name hF hk]
theorem nmB_max {l : List Int} (h : ∀ q ∈ l, 0 ≤ q ∧ q < 65536) (hl : l.length ≤ 65536) : (nmB l).size ≤ maxLen := by
  rw [nmB_size h]
  have := nameN_len h
  unfold maxLen
  omega
section
variable {B : Nat → Prop} {H0 H : Heap} {rest : List Pc} {xb mb fc most : Nat} {fa : Option Addr} {F : List (List Int)} {k : List Int}
def exS (xb mb : Nat) (fa : Option Addr) (fc most : Nat) (F : List (List Int)) (rest : List Pc) : List Pc :=
  pB tEx xb (exL mb (.slice fa F.length fc) most) :: pMW anyK Value.string mb (exM F) :: pS tStr 9 fa F.length fc (F.map nmB) :: rest
set_option maxHeartbeats 4000000 in
theorem at5_v {K : Value → Heap → Prop} (st : StB B H0 H (exS xb mb fa fc most F rest)) (hF : RngF F) (hk : ∀ q ∈ k, 0 ≤ q ∧ q < 65536) (hkl : k.length ≤ 65536) (hm : most ≤ 4096) (hFl : F.length ≤ most)
    (k1 : ∀ F' i fa' fc' H', atF most F k = some (F', i) → StB B H0 H' (exS xb mb fa' fc' most F' rest) → K (.tuple #[.int .i64 (i : Int), .bool true]) H')
    (k2 : ∀ H', atF most F k = none → StB B H0 H' (exS xb mb fa fc most F rest) → K (.tuple #[.int .i64 0, .bool false]) H') :
    VCall Tryd.prog 108 #[.pointer (some ⟨xb, 0, none⟩), .string (nmB k)] H K := by
  refine VCall.mk (R := fun r H' => (∃ (F' : List (List Int)) (i : Nat) (fa' : Option Addr) (fc' : Nat), r = .tuple #[.int .i64 (i : Int), .bool true] ∧ atF most F k = some (F', i) ∧ StB B H0 H' (exS xb mb fa' fc' most F' rest)) ∨ (r = .tuple #[.int .i64 0, .bool false] ∧ atF most F k = none ∧ StB B H0 H' (exS xb mb fa fc most F rest))) ?_ fun r H' h => by
    rcases h with ⟨F', i, fa', fc', rfl, h1, h2⟩ | ⟨rfl, h1, h2⟩
    · exact k1 F' i fa' fc' H' h1 h2
    · exact k2 H' h1 h2
  unfold exS at st
  have hb0 := st.blk 0 rfl
  refine FnOk.of_vc Tryd.func108 rfl (Tryd.call108 _) ?_
  (conv => whnf); refine VC.fa fl192_0 ?_
  (conv => whnf); refine ld1 (v := .map (some mb)) ct166 (by rw [hb0.cell]; rfl) trivial ?_
  (conv => whnf); refine mlookOkW (a := nmB k) mapSI keySW trivial (st.mapW 1 rfl) trivial ?_
  rw [exM_get hF hk]
  cases hf : F.findIdx? (· = k) with
  | some i =>
    (conv => whnf)
    exact .inl ⟨F, i, fa, fc, rfl, by unfold atF; rw [hf], st⟩
  | none =>
    (conv => whnf); refine VDraw.lex rfl (by kernel_rfl) ?_
    (conv => whnf); refine VC.fa fl192_1 ?_
    (conv => whnf); refine ld1 (v := .slice fa F.length fc) ct98 (by rw [hb0.cell]; rfl) trivial ?_
    (conv => whnf); refine VC.fa fl192_2 ?_
    (conv => whnf); refine ld1 (v := .int .i64 (most : Int)) ct3 (by rw [hb0.cell]; rfl) trivial ?_
    by_cases hlt : F.length < most
    · have d1 : decide ((most : Int) ≤ (F.length : Int)) = false := decide_eq_false (by omega)
      (conv => whnf); rw [d1]
      (conv => whnf); refine VDraw.heldZ (Old H) [10] (sq [0,1,2,3,4,5,6,7,8,9] (.f 10 .e)) rfl (by kernel_rfl) ?_
      (conv => whnf); refine VC.fa fl192_0 ?_
      (conv => whnf); refine ld1 (v := .map (some mb)) ct166 (by rw [hb0.cell]; rfl) hb0.lt ?_
      (conv => whnf); refine VC.fa fl192_1 ?_
      (conv => whnf); refine ld1 (v := .slice fa F.length fc) ct98 (by rw [hb0.cell]; rfl) hb0.lt ?_
      (conv => whnf); refine mputPW (a := nmB k) st 1 mapSI keySW trivial rfl (exM_put (by rw [find_name hF hk]; exact hf)) fun H1 st1 => ?_
      have hb1 := st1.blk 0 rfl
      (conv => whnf); refine VC.fa fl192_1 ?_
      (conv => whnf); refine ld1 (v := .slice fa F.length fc) ct98 (by rw [hb1.cell]; rfl) trivial ?_
      (conv => whnf); refine vbuild1 sl98 [.string (nmB k)] rfl rfl (by decide) (by decide) ?_
      intro q11 H11 hq11 hs11 hb11 ha11
      (conv => whnf); refine app1 (x := nmB k) (st1.skip hq11 ha11) 2 sl98 rfl hb11 ⟨rfl, nmB_max hk hkl⟩ rfl (by rw [List.length_map]; omega) (by decide) fun a12 c12 H12 st12 _ => ?_
      rw [show (F.map nmB).length + 1 = (F ++ [k]).length by simp, show F.map nmB ++ [nmB k] = (F ++ [k]).map nmB by simp] at st12
      rw [show (F.map nmB).length + 1 = (F ++ [k]).length by simp]
      (conv => whnf); refine VC.fa fl192_1 ?_
      (conv => whnf); refine st1B st12 0 ct98 rfl (show 1 < 3 by decide) rfl fun H13 st13 => ?_
      replace st13 : StB B H0 H13 (exS xb mb a12 c12 most (F ++ [k]) rest) := st13
      (conv => whnf); refine VC.fa fl192_1 ?_
      (conv => whnf); refine ld1 (v := .slice a12 (F ++ [k]).length c12) ct98 (by rw [(st13.blk 0 rfl).cell]; rfl) trivial ?_
      have w1 : IntKind.wrap .i64 (((F ++ [k]).length : Int) - 1) = (F.length : Int) := by
        rw [show (F ++ [k]).length = F.length + 1 by simp, w64 (by omega) (by omega)]; omega
      (conv => whnf); rw [w1]
      (conv => whnf)
      exact .inl ⟨F ++ [k], F.length, a12, c12, rfl, by unfold atF; rw [hf]; simp only; rw [if_pos hlt], st13⟩
    · have d1 : decide ((most : Int) ≤ (F.length : Int)) = true := decide_eq_true (by omega)
      (conv => whnf); rw [d1]
      (conv => whnf)
      exact .inr ⟨rfl, by unfold atF; rw [hf]; simp only; rw [if_neg hlt], st⟩
end
end Go.Proofs.YthomdogheamfpaaDoor
/- The document's book of sets: find and add: the walks. -/
set_option linter.unusedVariables false
set_option linter.unusedSimpArgs false
set_option maxRecDepth 100000
namespace Go.Proofs.YthomdogheamfpaaDoor
open Go.VC
/-- The numbers of those whose hash is h. -/
def idxB (F : List (List Int)) (h : Nat) : List Nat := (List.range F.length).filter fun i => decide ((F[i]?.map hshM) = some h)
theorem idxB_snoc (F : List (List Int)) (x : List Int) (h : Nat) : idxB (F ++ [x]) h = if hshM x = h then idxB F h ++ [F.length] else idxB F h := by
  unfold idxB
  rw [List.length_append, List.length_singleton, List.range_succ, List.filter_append]
  have e1 : (List.range F.length).filter (fun i => decide (((F ++ [x])[i]?.map hshM) = some h)) = (List.range F.length).filter (fun i => decide ((F[i]?.map hshM) = some h)) := List.filter_congr fun i hi => by
    rw [List.getElem?_append_left (List.mem_range.1 hi)]
  rw [e1]
  have e2 : (F ++ [x])[F.length]? = some x := by simp
  by_cases hh : hshM x = h
  · rw [if_pos hh, List.filter_cons_of_pos (by rw [e2]; simp [hh])]; rfl
  · rw [if_neg hh, List.filter_cons_of_neg (by rw [e2]; simp [hh])]; simp
theorem idxB_mem {F : List (List Int)} {h i : Nat} : i ∈ idxB F h ↔ ∃ x, F[i]? = some x ∧ hshM x = h := by
  unfold idxB
  rw [List.mem_filter, List.mem_range, decide_eq_true_eq]
  constructor
  · rintro ⟨h1, h2⟩
    obtain ⟨x, hx⟩ := get_some h1
    rw [hx] at h2
    exact ⟨x, hx, by simpa using h2⟩
  · rintro ⟨x, hx, rfl⟩
    exact ⟨(List.getElem?_eq_some_iff.1 hx).1, by rw [hx]; rfl⟩
theorem idxB_len (F : List (List Int)) (h : Nat) : (idxB F h).length ≤ F.length := by
  unfold idxB
  exact Nat.le_trans (List.length_filter_le _ _) (by simp)
theorem hshM_lt (l : List Int) : hshM l < 1024 := Nat.mod_lt _ (by decide)
def natI (l : List Nat) : List Int := l.map fun (i : Nat) => (i : Int)
def bkSl (F : List (List Int)) : Nat → Slot := fun h => slot tIk 3 (natI (idxB F h))
abbrev tBook : TypeId := 148
/-- The book, its sets beside it. -/
def bkS (b : Nat) (sa : Option Addr) (sc : Nat) (vs : List Value) (S : Nat → Prop) (F : List (List Int)) (rest : List Pc) : List Pc :=
  pN (tSl tIk) S 33 sa F.length sc F :: pG tBook b (.slice sa F.length sc) vs (bkSl F) :: rest
theorem findIdx_of {F : List (List Int)} {l : List Int} {i : Nat} (hn : F.Nodup) (h : F[i]? = some l) : F.findIdx? (· = l) = some i := by
  rw [List.findIdx?_eq_some_iff_getElem]
  obtain ⟨hi, e⟩ := List.getElem?_eq_some_iff.1 h
  refine ⟨hi, by simpa using e, fun j hj => ?_⟩
  have := (List.pairwise_iff_getElem.1 hn) j i (by omega) hi hj
  rw [e] at this
  simpa using this
theorem findIdx_no {F : List (List Int)} {l : List Int} (h : l ∉ F) : F.findIdx? (· = l) = none := by
  rw [List.findIdx?_eq_none_iff]
  intro x hx
  simp only [decide_eq_false_iff_not]
  rintro rfl
  exact h hx
def fndI (F : List (List Int)) (l : List Int) : Int := match F.findIdx? (· = l) with
  | some i => (i : Int)
  | none => -1
section
variable {B : Nat → Prop} {H0 H : Heap} {rest : List Pc} {b sc lc : Nat} {sa la : Option Addr} {vs : List Value} {S : Nat → Prop} {F : List (List Int)} {l : List Int}
set_option maxHeartbeats 8000000 in
theorem find_p (st : StB B H0 H (bkS b sa sc vs S F rest)) (hvl : vs.length = 1024) (hnd : F.Nodup) (hFl : F.length ≤ 4096) (hFr : ∀ x ∈ F, x.length ≤ 65536) (hld : SlD tIk (Old H) H la lc l) (hl : ∀ q ∈ l, 0 ≤ q ∧ q < 65536) (hll : l.length ≤ 65536) :
    Pure Tryd.prog 80 #[.pointer (some ⟨b, 0, none⟩), .slice la l.length lc] H (.int .i64 (fndI F l)) := by
  unfold bkS at st
  have hh := hshM_lt l
  obtain ⟨vh, hvh⟩ := get_some (l := vs) (k := hshM l) (by omega)
  obtain ⟨ah, ch, rfl, -⟩ := st.gview 1 rfl hvh (xs := natI (idxB F (hshM l))) (T := tIk) (e := 3) rfl
  have hnl : (natI (idxB F (hshM l))).length = (idxB F (hshM l)).length := List.length_map _
  rw [hnl] at hvh
  have hmaxi := idxB_len F (hshM l)
  have hcell : ∀ {H' : Heap}, Agr (Old H) H H' → VC.cell H' b (0 + 1 + hshM l) = some (.slice ah (idxB F (hshM l)).length ch) := fun {H'} ha => by
    rw [((st.call ha).gblk 1 rfl).cell, show 0 + 1 + hshM l = hshM l + 1 by omega, List.getElem?_cons_succ]; exact hvh
  have hcell0 : ∀ {H' : Heap}, Agr (Old H) H H' → VC.cell H' b (0 + 0) = some (.slice sa F.length sc) := fun {H'} ha => by
    rw [((st.call ha).gblk 1 rfl).cell]; rfl
  have hibS : ∀ (H2 : Heap) (S0 : Nat → Prop) (K : Value → Prop), K (.pointer (some ⟨b, 0 + 1 + hshM l, none⟩)) → VDet Tryd.prog (Instr.indexAt 119 (.pointer (some ⟨b, 0 + 1, none⟩)) (.int .i64 (hshM l : Int))) S0 H2 K := fun H2 S0 K hK => by
    refine ixa ar119 (by omega) (by omega) ?_
    rw [show 0 + 1 + ((hshM l : Nat) : Int).toNat * 1 = 0 + 1 + hshM l by omega]
    exact hK
  refine FnOk.of_vc Tryd.func80 rfl (Tryd.call80 _) ?_
  (conv => whnf); refine pures (hash_p (fun k hk => hk) hld hl) fun H1 ha1 => ?_
  (conv => whnf)
  refine VLoop.mk [6] (fun k : Nat => [.int .i64 (k : Int)]) (fun k H2 => k ≤ (idxB F (hshM l)).length ∧ (∀ i ∈ (idxB F (hshM l)).take k, ∀ x, F[i]? = some x → x ≠ l) ∧ Agr (Old H) H H2) (fun k _ => (idxB F (hshM l)).length - k) ?_ ?_
  · (conv => whnf)
    exact ⟨0, rfl, Nat.zero_le _, by simp, ha1⟩
  · rintro k H2 junk2 ⟨hk, hno, ha2⟩
    have st2 := st.call ha2
    (conv => whnf); refine fa fl148_1 ?_
    (conv => whnf); refine hibS _ _ _ ?_
    (conv => whnf); refine ld1 ct33 (hcell ha2) trivial ?_
    (conv => whnf); refine VIte.mk (fun hz => ?_) (fun hz => ?_) <;> simp only [decide_eq_true_eq, decide_eq_false_iff_not] at hz
    · obtain ⟨i, hi⟩ := get_some (l := idxB F (hshM l)) (k := k) (by omega)
      obtain ⟨s, hs, hsh⟩ := idxB_mem.1 (List.mem_of_getElem? hi)
      have hsl := hFr s (List.mem_of_getElem? hs)
      have hil := (List.getElem?_eq_some_iff.1 hs).1
      obtain ⟨ah', ch', e1, hvi⟩ := st2.gview 1 rfl hvh (xs := natI (idxB F (hshM l))) (T := tIk) (e := 3) rfl
      injection e1 with e2 e3 e4
      subst e2; subst e4
      have hgi : (natI (idxB F (hshM l)))[k]? = some (i : Int) := by unfold natI; rw [List.getElem?_map, hi]; rfl
      (conv => whnf); refine VDraw.lex rfl (by kernel_rfl) ?_
      (conv => whnf); refine fa fl148_0 ?_
      (conv => whnf); refine ld1 ct23 (hcell0 ha2) trivial ?_
      (conv => whnf); refine fa fl148_1 ?_
      (conv => whnf); refine hibS _ _ _ ?_
      (conv => whnf); refine ld1 ct33 (hcell ha2) trivial ?_
      (conv => whnf); refine ixrn (i := k) (x := (i : Int)) sl33 hvi hnl.symm hgi rfl ?_
      rintro b3 o3 cs3 hS3 hc3 ⟨rfl, -⟩
      (conv => whnf); refine ld1 ct3 hc3.one trivial ?_
      (conv => whnf); refine ixO (j := i) sl23 st2 0 rfl hs rfl ?_
      rintro b4 o4 cs4 hS4 hc4 ⟨ra, rc, rfl, hrd⟩
      (conv => whnf); refine ld1 ct33 hc4.one trivial ?_
      (conv => whnf)
      refine VLoop.mk [8, 9] (fun x : Bool × Nat => match x with | (sm, j) => [.bool sm, .int .i64 (j : Int)]) (fun x H3 => match x with | (sm, j) => j ≤ l.length ∧ (sm = true → s.length = l.length ∧ s.take j = l.take j) ∧ (sm = false → s ≠ l) ∧ Agr (Old H2) H2 H3) (fun x _ => l.length - x.2) ?_ ?_
      · (conv => whnf)
        refine ⟨((s.length : Int) == (l.length : Int), 0), rfl, Nat.zero_le _, fun h => ⟨?_, rfl⟩, fun h e => ?_, Agr.refl _ _⟩
        · have := eq_of_beq h; omega
        · rw [e] at h; simp at h
      · rintro ⟨sm, j⟩ H3 junk3 ⟨hj, hsm1, hsm0, ha3⟩
        have ha03 : Agr (Old H) H H3 := ha2.trans (ha3.mono fun k hk => old_lt ha2 hk)
        have wrap : ∀ {sm' : Bool}, (sm' = true → s = l) → (sm' = false → s ≠ l) → True := fun _ _ => trivial
        have fin_t : s = l → fndI F l = (i : Int) := fun e => by
          subst e
          unfold fndI
          rw [findIdx_of hnd hs]
        have fin_f : s ≠ l → ∀ i' ∈ (idxB F (hshM l)).take (k + 1), ∀ x', F[i']? = some x' → x' ≠ l := fun he i' hi' x' hx' => by
          rw [take_succ_snoc hi, List.mem_append, List.mem_singleton] at hi'
          rcases hi' with hi' | rfl
          · exact hno i' hi' x' hx'
          · rw [hs] at hx'
            cases hx'
            exact he
        (conv => whnf)
        by_cases hjl : j < l.length
        · have d1 : decide ((j : Int) < (l.length : Int)) = true := decide_eq_true (by omega)
          (conv => whnf); rw [d1]
          cases sm with
          | true =>
            obtain ⟨hlen, htk⟩ := hsm1 rfl
            obtain ⟨x, hx⟩ := get_some (l := s) (k := j) (by omega)
            obtain ⟨y, hy⟩ := get_some (l := l) (k := j) hjl
            (conv => whnf); refine VDraw.lex rfl (by kernel_rfl) ?_
            (conv => whnf); refine ixr (i := j) sl33 (hrd.frame ha3) hx rfl ?_
            rintro b5 o5 cs5 hS5 hc5 ⟨rfl, -⟩
            (conv => whnf); refine ld1 ct3 hc5.one trivial ?_
            (conv => whnf); refine ixr (i := j) sl33 (hld.frame ha03) hy rfl ?_
            rintro b6 o6 cs6 hS6 hc6 ⟨rfl, -⟩
            (conv => whnf); refine ld1 ct3 hc6.one trivial ?_
            (conv => whnf); rw [w64 (x := (j : Int) + 1) (by omega) (by omega)]
            refine ⟨rfl, (x == y, j + 1), by simp, ⟨by omega, fun h => ⟨hlen, ?_⟩, fun h e => ?_, ha3⟩, by simp only; omega⟩
            · have := eq_of_beq h
              subst this
              rw [take_succ_snoc hx, take_succ_snoc hy, htk]
            · subst e
              rw [hx] at hy
              injection hy with hy
              subst hy
              simp at h
          | false =>
            have hne := hsm0 rfl
            (conv => whnf)
            rw [w64 (x := (k : Int) + 1) (by omega) (by omega)]
            exact ⟨rfl, k + 1, by simp, ⟨by omega, fin_f hne, ha03⟩, by omega⟩
        · have d1 : decide ((j : Int) < (l.length : Int)) = false := decide_eq_false (by omega)
          obtain rfl : j = l.length := by omega
          (conv => whnf); rw [d1]
          cases sm with
          | true =>
            obtain ⟨hlen, htk⟩ := hsm1 rfl
            have e : s = l := by rw [← hlen, List.take_length, hlen, List.take_length] at htk; exact htk
            (conv => whnf); refine fa fl148_1 ?_
            (conv => whnf); refine hibS _ _ _ ?_
            (conv => whnf); refine ld1 ct33 (hcell ha03) trivial ?_
            (conv => whnf); refine ixrn (i := k) (x := (i : Int)) sl33 (hvi.frame ha3) hnl.symm hgi rfl ?_
            rintro b7 o7 cs7 hS7 hc7 ⟨rfl, -⟩
            (conv => whnf); refine ld1 ct3 hc7.one trivial ?_
            (conv => whnf)
            exact ⟨by rw [fin_t e], ha03⟩
          | false =>
            have hne := hsm0 rfl
            (conv => whnf)
            rw [w64 (x := (k : Int) + 1) (by omega) (by omega)]
            exact ⟨rfl, k + 1, by simp, ⟨by omega, fin_f hne, ha03⟩, by omega⟩
    · obtain rfl : k = (idxB F (hshM l)).length := by omega
      rw [List.take_length] at hno
      have hnew : l ∉ F := fun hx => by
        obtain ⟨i, hi⟩ := List.getElem?_of_mem hx
        exact hno i (idxB_mem.2 ⟨l, hi, rfl⟩) l hi rfl
      (conv => whnf)
      refine ⟨?_, ha2⟩
      unfold fndI
      rw [findIdx_no hnew]
end
end Go.Proofs.YthomdogheamfpaaDoor
/- The document's book of sets: add: the walk. -/
set_option linter.unusedVariables false
set_option linter.unusedSimpArgs false
set_option maxRecDepth 100000
namespace Go.Proofs.YthomdogheamfpaaDoor
open Go.VC
theorem bkSl_add (F : List (List Int)) (l : List Int) : updS (bkSl F) (hshM l) (slot tIk 3 (natI (idxB F (hshM l)) ++ [(F.length : Int)])) = bkSl (F ++ [l]) := by
  funext h
  by_cases hh : h = hshM l
  · subst hh
    rw [updS_self]
    show slot _ _ _ = slot _ _ _
    rw [idxB_snoc, if_pos rfl]
    unfold natI
    rw [List.map_append]; rfl
  · rw [updS_ne hh]
    show slot _ _ _ = slot _ _ _
    rw [idxB_snoc, if_neg (Ne.symm hh)]
section
variable {B : Nat → Prop} {H0 H : Heap} {rest : List Pc} {b sc lc : Nat} {sa la : Option Addr} {vs : List Value} {S : Nat → Prop} {F : List (List Int)} {l : List Int}
set_option maxHeartbeats 8000000 in
theorem add_v {K : Value → Heap → Prop} (st : StB B H0 H (pS tIk 3 la l.length lc l :: bkS b sa sc vs S F rest)) (hvl : vs.length = 1024) (hFl : F.length ≤ 4096) (hl : ∀ q ∈ l, 0 ≤ q ∧ q < 65536)
    (kK : ∀ sa' sc' vs' S' H', vs'.length = 1024 → StB B H0 H' (bkS b sa' sc' vs' S' (F ++ [l]) rest) → K (.int .i64 (F.length : Int)) H') :
    VCall Tryd.prog 79 #[.pointer (some ⟨b, 0, none⟩), .slice la l.length lc] H K := by
  refine VCall.mk (R := fun r H' => r = .int .i64 (F.length : Int) ∧ ∃ sa' sc' vs' S', vs'.length = 1024 ∧ StB B H0 H' (bkS b sa' sc' vs' S' (F ++ [l]) rest)) ?_ fun r H' h => by
    obtain ⟨rfl, sa', sc', vs', S', h1, h2⟩ := h
    exact kK sa' sc' vs' S' H' h1 h2
  unfold bkS at st ⊢
  have hh := hshM_lt l
  obtain ⟨vh, hvh⟩ := get_some (l := vs) (k := hshM l) (by omega)
  obtain ⟨ah, ch, rfl, -⟩ := st.gview 2 rfl hvh (xs := natI (idxB F (hshM l))) (T := tIk) (e := 3) rfl
  have hnl : (natI (idxB F (hshM l))).length = (idxB F (hshM l)).length := List.length_map _
  have hmaxi := idxB_len F (hshM l)
  have hcell : ∀ {H' : Heap}, Agr (Old H) H H' → VC.cell H' b (0 + 1 + hshM l) = some (.slice ah (natI (idxB F (hshM l))).length ch) := fun {H'} ha => by
    rw [((st.call ha).gblk 2 rfl).cell, show 0 + 1 + hshM l = hshM l + 1 by omega, List.getElem?_cons_succ]; exact hvh
  have hcell0 : ∀ {H' : Heap}, Agr (Old H) H H' → VC.cell H' b (0 + 0) = some (.slice sa F.length sc) := fun {H'} ha => by
    rw [((st.call ha).gblk 2 rfl).cell]; rfl
  have hibS : ∀ (H2 : Heap) (S0 : Nat → Prop) (K : Value → Prop), K (.pointer (some ⟨b, 0 + 1 + hshM l, none⟩)) → VDet Tryd.prog (Instr.indexAt 119 (.pointer (some ⟨b, 0 + 1, none⟩)) (.int .i64 (hshM l : Int))) S0 H2 K := fun H2 S0 K hK => by
    refine ixa ar119 (by omega) (by omega) ?_
    rw [show 0 + 1 + ((hshM l : Nat) : Int).toNat * 1 = 0 + 1 + hshM l by omega]
    exact hK
  refine FnOk.of_vc Tryd.func79 rfl (Tryd.call79 _) ?_
  (conv => whnf); refine pures (hash_p (fun k hk => hk) (st.view 0 rfl) hl) fun H1 ha1 => ?_
  have st1 := st.call ha1
  have hself : ¬ slB (.slice ah (natI (idxB F (hshM l))).length ch) b := (st1.at_ 2 rfl).2.2.2 _ _ hvh
  have hbb := (st1.in_ 2 rfl (.inl rfl) : _ ∧ b < H1.size).2
  (conv => whnf); refine VDraw.heldZ (fun k => k < H1.size ∧ ¬ slB (.slice ah (natI (idxB F (hshM l))).length ch) k) [18] (sq [0,1,2,3,4,5,6,7,8,9,10,11,12,15,16] (.f 13 (.f 14 (sq [17] (.f 18 .e))))) rfl (by kernel_rfl) ?_
  (conv => whnf); refine fa fl148_1 ?_
  (conv => whnf); refine hibS _ _ _ ?_
  (conv => whnf); refine ld1 ct33 (hcell ha1) ⟨hbb, hself⟩ ?_
  (conv => whnf); refine fa fl148_0 ?_
  (conv => whnf); refine ld1 ct23 (hcell0 ha1) ⟨hbb, hself⟩ ?_
  (conv => whnf); refine fa fl148_1 ?_
  (conv => whnf); refine vbuild1 sl33 [.int .i64 (F.length : Int)] rfl rfl (by decide) (by decide) ?_
  intro q3 H3 hq3 hs3 hb3 ha3
  have st3 := st1.skip hq3 ha3
  refine ⟨ha3.mono fun k hk => by have := hk.1; omega, ?_⟩
  (conv => whnf); refine appGB (ys := [(F.length : Int)]) (ds := [.int .i64 (F.length : Int)]) st3 2 sl33 rfl hvh (xs := natI (idxB F (hshM l))) (T := tIk) (e := 3) rfl (hb3.cells fun j v hv => by rw [Nat.zero_add]; exact hv) (Ty.reps_one ⟨rfl, kint ⟨by omega, by omega⟩⟩) rfl (by simp [Value.oneCell']) (by simp only [List.length_singleton, maxLen]; omega) (by simp only [List.length_singleton]; omega) fun v4 H4 st4 ha4 h14 => ?_
  refine ⟨(ha3.mono fun k hk => by have := hk.1; omega).trans (ha4.mono fun k hk => ⟨by have := hk.1; omega, hk.2⟩), ?_⟩
  (conv => whnf); refine hibS _ _ _ ?_
  (conv => whnf); refine stGB (j := hshM l) st4 2 ct33 rfl (by omega) h14 fun H5 st5 => ?_
  rw [bkSl_add] at st5
  have hwl : (vs.set (hshM l) v4).length = 1024 := by rw [List.length_set]; exact hvl
  generalize vs.set (hshM l) v4 = ws at *
  replace st5 : StB B H0 H5 (pS tIk 3 la l.length lc l :: pN (tSl tIk) S 33 sa F.length sc F :: pG tBook b (.slice sa F.length sc) ws (bkSl (F ++ [l])) :: rest) := st5
  (conv => whnf); refine fa fl148_0 ?_
  (conv => whnf); refine ld1 (v := .slice sa F.length sc) ct23 (by rw [(st5.gblk 2 rfl).cell]; rfl) trivial ?_
  (conv => whnf); refine vbuild1 sl23 [.slice la l.length lc] rfl rfl (by decide) (by decide) ?_
  intro q6 H6 hq6 hs6 hb6 ha6
  obtain ⟨la', lc', er, hrow5, -⟩ := (st5.at_ 0 rfl).1.view (S' := slB (.slice la l.length lc)) (fun b hb => hb) (fun b hb => hb.elim)
  injection er with er1 er2 er3
  subst er1; subst er3
  have st6 : StB B H0 H6 (pN (tSl tIk) (fun k => S k ∨ slB (.slice la l.length lc) k) 33 sa F.length sc F :: pG tBook b (.slice sa F.length sc) ws (bkSl (F ++ [l])) :: rest) := (StB.absorb (st5.perm (List.Perm.swap _ _ _))).skip hq6 ha6
  have hrow6 : SlD tIk (fun k => S k ∨ slB (.slice la l.length lc) k) H6 la lc l := (hrow5.frame (ha6.mono fun k hk => by
    have := (st5.in_ 0 rfl (.inl hk)).2
    omega)).mono fun k hk => .inr hk
  (conv => whnf); refine appNO (row := l) st6 sl23 (hb6.cells fun j v hv => by rw [Nat.zero_add]; exact hv) ⟨la, lc, rfl, hrow6⟩ rfl (fun u hu => by cases List.mem_singleton.1 hu; rfl) (by omega) (by decide) fun a7 c7 H7 st7 => ?_
  (conv => whnf); refine fa fl148_0 ?_
  (conv => whnf); refine stG0 st7 1 ct23 rfl rfl fun H8 st8 => ?_
  (conv => whnf); refine fa fl148_0 ?_
  (conv => whnf); refine ld1 (v := .slice a7 (F.length + 1) c7) ct23 (by rw [(st8.gblk 1 rfl).cell]; rfl) trivial ?_
  (conv => whnf); rw [w64 (x := ((F.length + 1 : Nat) : Int) - 1) (by omega) (by omega)]
  refine ⟨by rw [show ((F.length + 1 : Nat) : Int) - 1 = (F.length : Int) by omega], a7, c7, ws, fun k => S k ∨ slB (.slice la l.length lc) k, hwl, ?_⟩
  rw [List.length_append, List.length_singleton]
  exact st8
end
end Go.Proofs.YthomdogheamfpaaDoor
/- Explore over sets of states: the walk. -/
set_option linter.unusedVariables false
set_option linter.unusedSimpArgs false
set_option maxRecDepth 100000
namespace Go.Proofs.YthomdogheamfpaaDoor
open Go.VC
def HasF (a : NfM) (F : List (List Int)) : Prop := ∀ l ∈ F, (∀ q ∈ l, a.has q = true) ∧ l.length ≤ 65536
theorem HasF.rng {a : NfM} {F : List (List Int)} (h : HasF a F) : RngF F := fun l hl => ⟨fun q hq => by have := NfM.has_iff.1 ((h l hl).1 q hq); omega, (h l hl).2⟩
theorem stepA_len {a : NfM} {l : List Int} {b : Nat} : (stepA a l b).length ≤ 65536 := lstS_len _
theorem atF_mem {most : Nat} {F F' : List (List Int)} {k : List Int} {i : Nat} (h : atF most F k = some (F', i)) : ∀ x ∈ F', x ∈ F ∨ x = k := by
  intro x hx
  unfold atF at h
  split at h
  · injection h with h; injection h with h1 h2; subst h1; exact .inl hx
  · split at h
    · injection h with h; injection h with h1 h2; subst h1
      rcases List.mem_append.1 hx with hx | hx
      · exact .inl hx
      · rw [List.mem_singleton] at hx; exact .inr hx
    · cases h
theorem atF_len {most : Nat} {F F' : List (List Int)} {k : List Int} {i : Nat} (h : atF most F k = some (F', i)) (hl : F.length ≤ most) : F'.length ≤ most ∧ i < most := by
  unfold atF at h
  split at h
  · rename_i j hj
    injection h with h; injection h with h1 h2; subst h1; subst h2
    have := (List.findIdx?_eq_some_iff_getElem.1 hj).1
    omega
  · split at h
    · injection h with h; injection h with h1 h2; subst h1; subst h2
      simp only [List.length_append, List.length_cons, List.length_nil]; omega
    · cases h
theorem HasF.at_ {a : NfM} {most : Nat} {F F' : List (List Int)} {x : List Int} {b i : Nat} (h : HasF a F) (hx : atF most F (stepA a x b) = some (F', i)) : HasF a F' := fun l hl => by
  rcases atF_mem hx l hl with h1 | rfl
  · exact h l h1
  · exact ⟨stepA_rng, stepA_len⟩
def rowI (r : List Nat) : List Int := r.map fun (x : Nat) => (x : Int)
def bsOf (cs : List (BitVec 256)) : List Nat := cs.map fun c => (nextM c 0).1
theorem bsOf_get {cs : List (BitVec 256)} {j : Nat} {c : BitVec 256} (h : cs[j]? = some c) : (bsOf cs)[j]? = some (nextM c 0).1 := by
  unfold bsOf
  rw [List.getElem?_map, h]
  rfl
/-- What Explore answers. -/
noncomputable def ExpR (a : NfM) (most : Nat) (cs : List (BitVec 256)) (l0 : List Int) (H H' : Heap) (r : Value) : Prop := Agr (Old H) H H' ∧
  match detF most (stepA a) (bsOf cs) l0 with
  | none => r = .tuple #[.pointer none, .bool false]
  | some (F, rows) => ∃ v, r = .tuple #[v, .bool true] ∧ AutoV (fun k => H.size ≤ k ∧ k < H'.size) H' v (if soundB cs (rows.map rowI) F.length then some (madeM cs (rows.map rowI) (F.map fun l => decide (a.fin ∈ l))) else none)
set_option maxHeartbeats 16000000 in
theorem explore_c {S : Nat → Prop} {H : Heap} {a : NfM} {nv sv : Value} {wb pb : Nat} {ca : Option Addr} {cc most : Nat} {cs : List (BitVec 256)} {l0 : List Int} (hS : ∀ k, S k → k < H.size) (hwb : S wb) (hwc : Cells H wb 0 [nv]) (hnv : NetV S H nv a) (hpb : S pb) (hpc : Cells H pb 0 (nfL a sv)) (hel : a.edges.length ≤ 1048576) (hpow : PowH Tryd.prog H)
    (hcs : SlD tSet S H ca cc cs) (hcl : cs.length ≤ 256) (hl0 : ∀ q ∈ l0, a.has q = true) (hl0l : l0.length ≤ 65536) (hm1 : 1 ≤ most) (hm : most ≤ 4096) :
    FnOk Tryd.prog 75 #[.string (nmB l0), .slice ca cs.length cc, .func (.func 70) #[] #[.pointer (some ⟨wb, 0, none⟩)], .func (.func 73) #[] #[.pointer (some ⟨pb, 0, none⟩)], .int .i64 (most : Int)] H fun r H' => ExpR a most cs l0 H H' r := by
  have hF0 : HasF a [l0] := fun l hl => by rw [List.mem_singleton] at hl; subst hl; exact ⟨hl0, hl0l⟩
  refine FnOk.of_vc Tryd.func75 rfl (Tryd.call75 _) ?_
  (conv => whnf); refine mmakeW (Ok := anyK) (enc := Value.string) fun mb H1 hb1 hs1 hm1' ha1 => ?_
  have st1 := (St.nil H).mapNewW hb1 hs1 hm1' ha1
  (conv => whnf); refine vbuildS Tryd.underlying192 rfl (.agg #[.map none, .slice none 0 0, .int .i64 0]) rfl (exL mb (.slice none 0 0) most) rfl ?_
  (conv => whnf); refine vbox (exL mb (.slice none 0 0) most) rfl ?_
  intro xb H2 hxb hs2 hb2 ha2
  have st2 : St H H2 (exS xb mb none 0 most [] []) := ((st1.box hxb hs2 hb2 ha2).nils tStr 9).pick [1, 0, 2] (by decide)
  have hat0 : atF most ([] : List (List Int)) l0 = some ([l0], 0) := by
    unfold atF
    rw [List.findIdx?_nil]
    simp only
    rw [if_pos (by simp only [List.length_nil]; omega)]
    rfl
  (conv => whnf); refine at5_v st2 (fun l hl => by cases hl) (fun q hq => (hF0.rng l0 (by simp)).1 q hq) hl0l hm (Nat.zero_le _) (fun F' i fa' fc' H3 h1 st3 => ?_) (fun H3 h1 _ => ?_)
  · rw [hat0] at h1
    injection h1 with h1
    injection h1 with h1 h2
    subst h1; subst h2
    have st4 : St H H3 (exS xb mb fa' fc' most [l0] [pN (tSl tIk) none_ 33 none 0 0 [], pS tBool 4 none 0 0 []]) := (st3.nils (tSl tIk) 33).nils tBool 4
    (conv => whnf)
    refine VLoop.mk [15, 16, 17] (fun x : Nat × List (List Int) × List (List Nat) × Option Addr × Nat × Option Addr × Nat => match x with | (i, F, rows, na, nc, ba, bc) => [.slice na i nc, .slice ba i bc, .int .i64 (i : Int)])
      (fun x H4 => match x with | (i, F, rows, na, nc, ba, bc) => i ≤ F.length ∧ F.length ≤ most ∧ HasF a F ∧ rows.length = i ∧ rowsF most (stepA a) (bsOf cs) l0 i = some (F, rows) ∧ ∃ Sx fa fc, St H H4 (exS xb mb fa fc most F [pN (tSl tIk) Sx 33 na i nc (rows.map rowI), pS tBool 4 ba i bc ((F.take i).map fun l => decide (a.fin ∈ l))])) (fun x _ => most - x.1) ?_ ?_
    · (conv => whnf)
      exact ⟨(0, [l0], [], none, 0, none, 0), rfl, Nat.zero_le _, by simp only [List.length_cons, List.length_nil]; omega, hF0, rfl, rfl, none_, fa', fc', st4⟩
    · rintro ⟨i, F, rows, na, nc, ba, bc⟩ H4 junk4 ⟨hiF, hFm, hHF, hrl, hrun, Sx, fa, fc, st5⟩
      have hb5 := st5.blk 0 rfl
      (conv => whnf); refine VC.fa fl192_1 ?_
      (conv => whnf); refine ld1 (v := .slice fa F.length fc) ct98 (by rw [hb5.cell]; rfl) trivial ?_
      (conv => whnf); refine VIte.mk (fun hz => ?_) (fun hz => ?_) <;> simp only [decide_eq_true_eq, decide_eq_false_iff_not] at hz
      · obtain ⟨x, hx⟩ := get_some (l := F) (k := i) (by omega)
        obtain ⟨hxh, hxl⟩ := hHF x (List.mem_of_getElem? hx)
        have hnext : rowsF most (stepA a) (bsOf cs) l0 (i + 1) = ((bsOf cs).foldl (rowF most (stepA a) x) (some (F, []))).map fun r => (r.1, rows ++ [r.2]) := by
          show (rowsF most (stepA a) (bsOf cs) l0 i).bind _ = _
          rw [hrun]
          simp only [Option.bind_some, hx]
        (conv => whnf); refine vmake1 sl33 rfl (by omega) (by omega) (by omega) (by omega) ?_
        intro rb H6 hrb hs6 hb6 ha6
        rw [Int.toNat_natCast] at hb6
        rw [Int.toNat_natCast, show (0 : Int).toNat = 0 from rfl]
        have st6 := st5.newCap (T := tIk) (cap := cs.length) hrb hs6 hb6 ha6 (by simp [tInt]) (by unfold maxLen; omega)
        (conv => whnf)
        refine VLoop.mk [18, 51] (fun y : Nat × List (List Int) × List Nat × Option Addr × Nat => match y with | (j, F', row, ra, rc) => [.slice ra row.length rc, .int .i64 (j : Int)])
          (fun y H7 => match y with | (j, F', row, ra, rc) => j ≤ cs.length ∧ F'.length ≤ most ∧ HasF a F' ∧ F <+: F' ∧ row.length = j ∧ ((bsOf cs).take j).foldl (rowF most (stepA a) x) (some (F, [])) = some (F', row) ∧ ∃ fa fc, St H H7 (exS xb mb fa fc most F' [pN (tSl tIk) Sx 33 na i nc (rows.map rowI), pS tBool 4 ba i bc ((F.take i).map fun l => decide (a.fin ∈ l)), pS tIk 3 ra row.length rc (rowI row)])) (fun y _ => cs.length - y.1) ?_ ?_
        · (conv => whnf)
          exact ⟨(0, F, [], some ⟨rb, 0, none⟩, cs.length), rfl, Nat.zero_le _, hFm, hHF, List.prefix_refl _, rfl, rfl, fa, fc, st6⟩
        · rintro ⟨j, F', row, ra, rc⟩ H7 junk7 ⟨hj, hF'm, hHF', hpre, hrowl, hfold, fa7, fc7, st7⟩
          (conv => whnf); refine VIte.mk (fun hz2 => ?_) (fun hz2 => ?_) <;> simp only [decide_eq_true_eq, decide_eq_false_iff_not] at hz2
          · obtain ⟨c, hc⟩ := get_some (l := cs) (k := j) (by omega)
            have hbs := bsOf_get hc
            have hblt := nextM_lt c 0
            have hxF' := pre_get hpre hx
            (conv => whnf); refine ixr (i := j) sl83 (hcs.frame (st7.old.mono hS)) hc rfl ?_
            rintro b8 o8 cs8 hS8 hc8 rfl
            (conv => whnf); refine ldN (cs := setL c) ag73 hc8 trivial ?_
            (conv => whnf); refine valloc (setV 0) (setL 0) rfl rfl ?_
            intro sx H8 hsx hs8 hb8 ha8
            have st8 := st7.box hsx hs8 hb8 ha8
            (conv => whnf); refine stNB (cs := setL c) st8 6 rfl rfl (Nat.le_refl _) rfl fun H9 st9 => ?_
            rw [splice_all (show (setL c).length = (setL 0).length from rfl)] at st9
            (conv => whnf); refine ldN (cs := setL c) ag73 ((st9.blk 6 rfl).cells fun j v hv => by rw [Nat.zero_add]; exact hv) trivial ?_
            (conv => whnf); refine pures (next_p c 0 (by decide) H9) fun H10 ha10 => ?_
            have st10 := st9.call ha10
            have hb10 := st10.blk 0 rfl
            (conv => whnf); refine VC.fa fl192_1 ?_
            (conv => whnf); refine ld1 (v := .slice fa7 F'.length fc7) ct98 (by rw [hb10.cell]; rfl) trivial ?_
            have hview := st10.view 2 rfl
            have hgx : (F'.map nmB)[i]? = some (nmB x) := by rw [List.getElem?_map, hxF']; rfl
            (conv => whnf); refine ixrn (i := i) sl98 hview (List.length_map _).symm hgx rfl ?_
            rintro b11 o11 c11 hS11 hc11 ⟨rfl, -⟩
            (conv => whnf); refine ld1 ct9 hc11.one trivial ?_
            have up10 : ∀ k, S k → k < H10.size := fun k hk => st10.up (hS k hk)
            (conv => whnf); refine VCall.mk (step5_c (S := S) up10 hwb (hwc.eq (st10.old wb (hS wb hwb))) (hnv.frame (st10.old.mono hS)) hel hxh hxl hblt (hpow.agr st10.old)) ?_
            rintro _ H11 ⟨rfl, ha11⟩
            have st11 := st10.call ha11
            replace st11 : St H H11 (exS xb mb fa7 fc7 most F' [pN (tSl tIk) Sx 33 na i nc (rows.map rowI), pS tBool 4 ba i bc ((F.take i).map fun l => decide (a.fin ∈ l)), pS tIk 3 ra row.length rc (rowI row)]) := st11.pick [0, 1, 2, 3, 4, 5] (by decide)
            have hstep : ((bsOf cs).take (j + 1)).foldl (rowF most (stepA a) x) (some (F, [])) = (atF most F' (stepA a x (nextM c 0).1)).map fun r => (r.1, row ++ [r.2]) := by
              rw [take_succ_snoc hbs, List.foldl_append, hfold]
              rfl
            (conv => whnf); refine at5_v st11 hHF'.rng (fun q hq => by have := NfM.has_iff.1 (stepA_rng q hq); omega) stepA_len hm hF'm (fun F2 t fa12 fc12 H12 h12 st12 => ?_) (fun H12 h12 st12 => ?_)
            · obtain ⟨hl2, htm⟩ := atF_len h12 hF'm
              rw [h12] at hstep
              (conv => whnf); refine vbuild1 sl33 [.int .i64 (t : Int)] rfl rfl (by decide) (by decide) ?_
              intro q13 H13 hq13 hs13 hb13 ha13
              (conv => whnf); refine app1 (x := (t : Int)) (st12.skip hq13 ha13) 5 sl33 rfl hb13 ⟨rfl, kint ⟨by omega, by omega⟩⟩ rfl (by unfold rowI; rw [List.length_map]; omega) (by decide) fun a14 c14 H14 st14 _ => ?_
              have e1 : (rowI row).length + 1 = (row ++ [t]).length := by unfold rowI; simp
              have e2 : rowI row ++ [(t : Int)] = rowI (row ++ [t]) := by unfold rowI; simp
              rw [e1, e2] at st14
              rw [e1]
              (conv => whnf); rw [w64 (x := (j : Int) + 1) (by omega) (by omega)]
              exact ⟨rfl, (j + 1, F2, row ++ [t], a14, c14), by simp, ⟨by omega, hl2, hHF'.at_ h12, hpre.trans (by
                unfold atF at h12
                split at h12
                · injection h12 with h; injection h with h1 h2; subst h1; exact List.prefix_refl _
                · split at h12
                  · injection h12 with h; injection h with h1 h2; subst h1; exact List.prefix_append _ _
                  · cases h12), by simp [hrowl], hstep, fa12, fc12, st14⟩, by simp only; omega⟩
            · rw [h12] at hstep
              have hnone : (bsOf cs).foldl (rowF most (stepA a) x) (some (F, [])) = none := by
                have h3 := (List.take_append_drop (j + 1) (bsOf cs)).symm
                rw [h3, List.foldl_append, hstep]
                exact rowF_none x _
              have hdet : detF most (stepA a) (bsOf cs) l0 = none := detF_none (n := i) (by rw [hnext, hnone]; rfl) (by omega)
              (conv => whnf)
              refine ⟨st12.old, ?_⟩
              rw [hdet]
          · obtain rfl : j = cs.length := by omega
            have hfull : (bsOf cs).foldl (rowF most (stepA a) x) (some (F, [])) = some (F', row) := by
              rw [← hfold, List.take_of_length_le (by unfold bsOf; rw [List.length_map]; exact Nat.le_refl _)]
            rw [hfull] at hnext
            simp only [Option.map_some] at hnext
            have hxF' := pre_get hpre hx
            have hri : (rowI row).length = row.length := by unfold rowI; rw [List.length_map]
            have hrl2 : (rows.map rowI).length = i := by rw [List.length_map]; exact hrl
            have hend : ((F'.take (i + 1)).map fun l => decide (a.fin ∈ l)) = ((F.take i).map fun l => decide (a.fin ∈ l)) ++ [decide (a.fin ∈ x)] := by
              obtain ⟨t, rfl⟩ := hpre
              rw [List.take_append_of_le_length (by omega), take_succ_snoc hx, List.map_append]
              rfl
            have hel7 : ((F.take i).map fun l => decide (a.fin ∈ l)).length = i := by rw [List.length_map, List.length_take]; omega
            obtain ⟨ra', rc', er, hrow7, -⟩ := (st7.at_ 5 rfl).1.view (S' := slB (.slice ra row.length rc)) (fun b hb => hb) (fun b hb => hb.elim)
            injection er with er1 er2 er3
            subst er1; subst er3
            have st8 : St H H7 (pN (tSl tIk) (fun k => Sx k ∨ slB (.slice ra row.length rc) k) 33 na i nc (rows.map rowI) :: [pB tEx xb (exL mb (.slice fa7 F'.length fc7) most), pMW anyK Value.string mb (exM F'), pS tStr 9 fa7 F'.length fc7 (F'.map nmB), pS tBool 4 ba i bc ((F.take i).map fun l => decide (a.fin ∈ l))]) := StB.absorb (st7.pick [3, 5, 0, 1, 2, 4] (by decide))
            (conv => whnf); refine vbuild1 sl23 [.slice ra row.length rc] rfl rfl (by decide) (by decide) ?_
            intro q13 H13 hq13 hs13 hb13 ha13
            have st13 := st8.skip hq13 ha13
            have hrow13 : SlD tIk (fun k => Sx k ∨ slB (.slice ra row.length rc) k) H13 ra rc (rowI row) := (hrow7.frame (ha13.mono fun k hk => by
              have := (st7.in_ 5 rfl (.inl hk)).2
              omega)).mono fun k hk => .inr hk
            (conv => whnf); refine appNO (row := rowI row) st13 sl23 (hb13.cells fun j v hv => by rw [Nat.zero_add]; exact hv) ⟨ra, rc, by rw [hri], hrow13⟩ rfl (fun u hu => by cases List.mem_singleton.1 hu; rfl) (by rw [hrl2]; omega) (by decide) fun a14 c14 H14 st14 => ?_
            rw [hrl2] at st14 ⊢
            have hb14 := st14.blk 1 rfl
            (conv => whnf); refine VC.fa fl192_1 ?_
            (conv => whnf); refine ld1 (v := .slice fa7 F'.length fc7) ct98 (by rw [hb14.cell]; rfl) trivial ?_
            have hgx : (F'.map nmB)[i]? = some (nmB x) := by rw [List.getElem?_map, hxF']; rfl
            (conv => whnf); refine ixrn (i := i) sl98 (st14.view 3 rfl) (List.length_map _).symm hgx rfl ?_
            rintro b11 o11 c11 hS11 hc11 ⟨rfl, -⟩
            (conv => whnf); refine ld1 ct9 hc11.one trivial ?_
            have up14 : ∀ k, S k → k < H14.size := fun k hk => st14.up (hS k hk)
            (conv => whnf); refine pures (final5_p (S := S) up14 hpb (hpc.eq (st14.old pb (hS pb hpb))) (hHF.rng x (List.mem_of_getElem? hx)).1 hxl) fun H15 ha15 => ?_
            have st15 := st14.call ha15
            (conv => whnf); refine vbuild1 sl24 [.bool (decide (a.fin ∈ x))] rfl rfl (by decide) (by decide) ?_
            intro q16 H16 hq16 hs16 hb16 ha16
            (conv => whnf); refine app1 (x := decide (a.fin ∈ x)) (st15.skip hq16 ha16) 4 sl24 rfl hb16 rfl rfl (by rw [hel7]; omega) (by decide) fun a17 c17 H17 st17 _ => ?_
            rw [hel7, ← hend] at st17
            rw [hel7]
            (conv => whnf); rw [w64 (x := (i : Int) + 1) (by omega) (by omega)]
            refine ⟨rfl, (i + 1, F', rows ++ [row], a14, c14, a17, c17), by simp, ⟨?_, hF'm, hHF', by simp [hrl], hnext, (fun k => Sx k ∨ slB (.slice ra row.length rc) k), fa7, fc7, ?_⟩, by simp only; omega⟩
            · have := (List.getElem?_eq_some_iff.1 hxF').1
              omega
            · have e5 : rows.map rowI ++ [rowI row] = (rows ++ [row]).map rowI := by simp
              rw [e5] at st17
              exact st17.pick [1, 2, 3, 0, 4] (by decide)
      · obtain rfl : i = F.length := by omega
        rw [List.take_length] at st5
        have hrl2 : (rows.map rowI).length = F.length := by rw [List.length_map]; exact hrl
        have hdet := detF_done hrun rfl hFm
        have hnew := new_c ca na ba cc nc bc cs (rows.map rowI) (F.map fun l => decide (a.fin ∈ l)) (Old H4) H4 (fun k hk => hk) ((hcs.frame (st5.old.mono hS)).mono fun k hk => st5.up (hS k hk)) (st5.view 3 rfl) (st5.view 4 rfl)
        rw [hrl2, List.length_map] at hnew
        (conv => whnf); refine VCall.mk hnew ?_
        rintro v H6 ⟨ha6, hs6, hv6⟩
        have st6 := st5.call ha6
        (conv => whnf)
        refine ⟨st6.old, ?_⟩
        rw [hdet]
        exact ⟨v, rfl, hv6.mono fun k hk => ⟨Nat.le_trans (old_size st5.old) hk.1, hk.2⟩⟩
  · rw [hat0] at h1
    cases h1
end Go.Proofs.YthomdogheamfpaaDoor
/- dfa.Determinize: the walk. -/
set_option linter.unusedVariables false
set_option linter.unusedSimpArgs false
set_option maxRecDepth 100000
namespace Go.Proofs.YthomdogheamfpaaDoor
open Go.VC
theorem sum_set {β : Type} : ∀ (xs : List (List β)) (q : Nat) (row z : List β), xs[q]? = some row → ((xs.set q z).map List.length).sum + row.length = (xs.map List.length).sum + z.length
  | [], q, row, z, h => by simp at h
  | x :: xs, 0, row, z, h => by
    simp only [List.getElem?_cons_zero, Option.some.injEq] at h
    subst h
    simp only [List.set_cons_zero, List.map_cons, List.sum_cons]
    omega
  | x :: xs, q + 1, row, z, h => by
    rw [List.getElem?_cons_succ] at h
    have := sum_set xs q row z h
    simp only [List.set_cons_succ, List.map_cons, List.sum_cons]
    omega
theorem grp_far {β : Type} {n q : Nat} {key : EdM → Option (Nat × β)} {l : List EdM} {e : EdM} {y : β} (h : key e = some (q, y)) (hq : n ≤ q) : grp n key (l ++ [e]) = grp n key l := by
  unfold grp
  refine List.map_congr_left fun j hj => ?_
  rw [List.filterMap_append]
  have hjq : q ≠ j := by have := List.mem_range.1 hj; omega
  simp [h, hjq]
theorem grp_sum {β : Type} (n : Nat) (key : EdM → Option (Nat × β)) (l : List EdM) : ∀ k, k ≤ l.length → ((grp n key (l.take k)).map List.length).sum ≤ k := by
  intro k
  induction k with
  | zero =>
    intro _
    rw [List.take_zero, grp_nil, List.map_replicate]
    simp
  | succ k ih =>
    intro hk
    obtain ⟨e, he⟩ := get_some (l := l) (k := k) (by omega)
    have := ih (by omega)
    rw [take_succ_snoc he]
    cases hke : key e with
    | none => rw [grp_none hke]; omega
    | some p =>
      obtain ⟨q, y⟩ := p
      by_cases hq : q < n
      · obtain ⟨row, hrow⟩ := get_some (l := grp n key (l.take k)) (k := q) (by rw [grp_len]; exact hq)
        rw [grp_some hke hrow]
        have h2 := sum_set _ _ _ (row ++ [y]) hrow
        simp only [List.length_append, List.length_cons, List.length_nil] at h2
        omega
      · rw [grp_far hke (by omega)]; omega
/-- The sets that the ways take. -/
def setsA (a : NfM) : List (BitVec 256) := (takT a).flatMap fun r => r.map fun e => e.set
theorem flat_len {β γ : Type} (f : β → γ) : ∀ xs : List (List β), (xs.flatMap fun r => r.map f).length = (xs.map List.length).sum
  | [] => rfl
  | x :: xs => by rw [List.flatMap_cons, List.length_append, List.length_map, flat_len f xs, List.map_cons, List.sum_cons]
def setsTo (a : NfM) (i : Nat) : List (BitVec 256) := ((takT a).take i).flatMap fun r => r.map fun e => e.set
theorem setsTo_len (a : NfM) (i : Nat) : (setsTo a i).length ≤ a.edges.length := by
  unfold setsTo
  rw [flat_len]
  have h1 := grp_sum (nstA a) (keyT a) a.edges a.edges.length (Nat.le_refl _)
  rw [List.take_length] at h1
  have h2 : (((takT a).take i).map List.length).sum ≤ ((takT a).map List.length).sum := by
    conv => rhs; rw [← List.take_append_drop i (takT a)]
    rw [List.map_append, List.sum_append]
    omega
  unfold takT at h2 ⊢
  omega
/-- What Determinize answers, of a budget that may be. -/
noncomputable def DetR (a : NfM) (budget : Nat) (H H' : Heap) (r : Value) : Prop := Agr (Old H) H H' ∧
  match detF budget (stepA a) (repsM (setsA a)) (lstS (begS a)) with
  | none => r = .tuple #[.pointer none, .int .i64 40]
  | some (F, rows) => ∃ v, r = .tuple #[v, .int .i64 0] ∧ AutoV (fun k => H.size ≤ k ∧ k < H'.size) H' v (if soundB (atomsM (setsA a)) (rows.map rowI) F.length then some (madeM (atomsM (setsA a)) (rows.map rowI) (F.map fun l => decide (a.fin ∈ l))) else none)
theorem nm_nil : nmB [] = ⟨#[]⟩ := rfl
set_option maxHeartbeats 16000000 in
theorem determinize_c {S : Nat → Prop} {H : Heap} {v : Value} {a : NfM} {budget : Nat} (hS : ∀ k, S k → k < H.size) (h : NfV S H v a) (hpow : PowH Tryd.prog H) (hb1 : 1 ≤ budget) (hb2 : budget ≤ 4096) :
    FnOk Tryd.prog 32 #[v, .int .i64 (budget : Int)] H fun r H' => DetR a budget H H' r := by
  have hr := h.1
  have hl := h.2.1
  have d1 : decide ((budget : Int) < 1) = false := decide_eq_false (by omega)
  have d2 : decide ((4096 : Int) < (budget : Int)) = false := decide_eq_false (by omega)
  have hnle := nstA_le a
  refine FnOk.of_vc Tryd.func32 rfl (Tryd.call32 _) ?_
  (conv => whnf); refine nf_box h fun ea ec he0 h1 => ?_
  subst he0
  intro p H1 hp hs1 hbb1 ha1
  have st1 := (St.nil H).box hp hs1 hbb1 ha1
  (conv => whnf); rw [d1]
  (conv => whnf); rw [d2]
  (conv => whnf); refine nf_load hr hl (st1.blk 0 rfl) ag58 trivial (h1.frame (st1.old.mono hS)) fun v2 hv2 => ?_
  (conv => whnf); refine VCall.mk (ready_c (fun k hk => st1.up (hS k hk)) hv2) ?_
  rintro nv H3 ⟨ha3, hnv⟩
  have st3 := st1.call ha3
  have hnv0 := hnv
  obtain ⟨nb, sa, sc, ta, tc, hne, hnb, hncells, hnsil, hntak⟩ := hnv
  subst hne
  (conv => whnf); refine valloc _ [.pointer none] rfl rfl ?_
  intro wb H4 hwb hs4 hb4 ha4
  have u4 : St H3 H4 [pB 128 wb [.pointer none]] := (St.nil H3).box hwb hs4 hb4 ha4
  (conv => whnf); refine st1B u4 0 ct128 rfl (show 0 < 1 by decide) rfl fun H5 u5 => ?_
  replace u5 : St H3 H5 [pB 128 wb [.pointer (some ⟨nb, 0, none⟩)]] := u5
  have u6 : St H3 H5 [pB 128 wb [.pointer (some ⟨nb, 0, none⟩)], pS tSet 73 none 0 0 []] := u5.nils tSet 73
  have htl : (takT a).length = nstA a := grp_len _ _ _
  have hT : ∀ i, (setsTo a i).length ≤ a.edges.length := fun i => setsTo_len a i
  (conv => whnf); refine ld1 (v := .pointer (some ⟨nb, 0, none⟩)) ct128 (by rw [(u6.blk 0 rfl).cell]; rfl) trivial ?_
  (conv => whnf); refine VC.fa fl132_1 ?_
  (conv => whnf); refine ld1 (v := .slice ta (nstA a) tc) ct130 ((hncells.eq (u6.old nb hnb)) 1 _ rfl) trivial ?_
  (conv => whnf)
  refine VLoop.mk [7, 30] (fun x : Nat × Option Addr × Nat => match x with | (i, a5, c5) => [.slice a5 (setsTo a i).length c5, .int .i64 (i : Int)])
    (fun x H6 => x.1 ≤ nstA a ∧ St H3 H6 [pB 128 wb [.pointer (some ⟨nb, 0, none⟩)], pS tSet 73 x.2.1 (setsTo a x.1).length x.2.2 (setsTo a x.1)]) (fun x _ => nstA a - x.1) ?_ ?_
  · (conv => whnf)
    exact ⟨(0, none, 0), rfl, Nat.zero_le _, u6⟩
  · rintro ⟨i, a5, c5⟩ H6 junk6 ⟨hi, u7⟩
    simp only at hi u7
    (conv => whnf); refine VIte.mk (fun hz => ?_) (fun hz => ?_) <;> simp only [decide_eq_true_eq, decide_eq_false_iff_not] at hz
    · obtain ⟨row, hrow⟩ := get_some (l := takT a) (k := i) (by omega)
      have hsucc : setsTo a (i + 1) = setsTo a i ++ row.map fun e => e.set := by
        unfold setsTo
        rw [take_succ_snoc hrow, List.flatMap_append]
        simp
      have hTi := hT (i + 1)
      rw [hsucc, List.length_append, List.length_map] at hTi
      (conv => whnf); refine ixrn (i := i) sl130 (hntak.frame u7.old) htl.symm hrow rfl ?_
      rintro b8 o8 c8 hS8 hc8 ⟨ra, rc, rfl, hrd2⟩
      have hrd : SlD tEd (Old H3) H6 ra rc row := hrd2
      (conv => whnf); refine ld1 ct56 hc8.one trivial ?_
      (conv => whnf)
      refine VLoop.mk [7, 36] (fun x : Nat × Option Addr × Nat => match x with | (j, a6, c6) => [.slice a6 (setsTo a i ++ (row.take j).map fun e => e.set).length c6, .int .i64 (j : Int)])
        (fun x H7 => x.1 ≤ row.length ∧ St H3 H7 [pB 128 wb [.pointer (some ⟨nb, 0, none⟩)], pS tSet 73 x.2.1 (setsTo a i ++ (row.take x.1).map fun e => e.set).length x.2.2 (setsTo a i ++ (row.take x.1).map fun e => e.set)]) (fun x _ => row.length - x.1) ?_ ?_
      · (conv => whnf)
        refine ⟨(0, a5, c5), by simp, Nat.zero_le _, ?_⟩
        simpa using u7
      · rintro ⟨j, a6, c6⟩ H7 junk7 ⟨hj, u8⟩
        simp only at hj u8
        have hrd7 : SlD tEd (Old H3) H7 ra rc row := htak_frame hrd u7 u8 (fun k hk => hk)
        (conv => whnf); refine VIte.mk (fun hz2 => ?_) (fun hz2 => ?_) <;> simp only [decide_eq_true_eq, decide_eq_false_iff_not] at hz2
        · obtain ⟨e, he⟩ := get_some (l := row) (k := j) (by omega)
          have hlen8 : (setsTo a i ++ (row.take j).map fun e => e.set).length ≤ 1048576 := by
            rw [List.length_append, List.length_map, List.length_take]; omega
          (conv => whnf); refine ixr (i := j) sl56 hrd7 he rfl ?_
          rintro b6 o6 c7 hS6 hc6 ⟨rfl, hok⟩
          (conv => whnf); refine ldN (cs := edL e) ag75 hc6 trivial ?_
          (conv => whnf); refine valloc _ [.int .i64 0, .int .i64 0, .bool false, .int .u64 0, .int .u64 0, .int .u64 0, .int .u64 0] edge_z rfl ?_
          intro x H8 hx hs8 hb8 ha8
          have u9 := u8.box hx hs8 hb8 ha8
          (conv => whnf); refine stNB (cs := edL e) u9 2 rfl rfl (Nat.le_refl _) rfl fun H9 u10 => ?_
          rw [splice_all (show (edL e).length = 7 from rfl)] at u10
          (conv => whnf); refine VC.fa fl75_3 ?_
          (conv => whnf); refine ldN (cs := setL e.set) ag73 ((u10.blk 2 rfl).cells fun j v hv => edL_set e j v hv) trivial ?_
          (conv => whnf); refine vbuild1 sl83 (setL e.set) rfl rfl (by decide) (by decide) ?_
          intro q11 H11 hq11 hs11 hb11 ha11
          (conv => whnf); refine appO (ys := [e.set]) (u10.skip hq11 ha11) 1 sl83 rfl (hb11.cells (o := 0) (cs := setL e.set) fun j v hv => by rw [Nat.zero_add]; exact hv) (Ty.reps_one rfl) rfl (fun u hu => List.all_eq_true.1 (show (setL e.set).all (·.oneCell') = true from rfl) u hu) (by simp only [List.length_cons, List.length_nil]; omega) (by decide) fun a12 c12 H12 u12 _ => ?_
          have e1 : (setsTo a i ++ (row.take j).map fun e => e.set) ++ [e.set] = setsTo a i ++ (row.take (j + 1)).map fun e => e.set := by rw [take_succ_snoc he]; simp
          have e2 : (setsTo a i ++ (row.take j).map fun e => e.set).length + [e.set].length = (setsTo a i ++ (row.take (j + 1)).map fun e => e.set).length := by rw [← e1]; exact List.length_append.symm
          rw [e1, e2] at u12
          rw [e2]
          (conv => whnf); rw [w64 (x := (j : Int) + 1) (by omega) (by omega)]
          exact ⟨rfl, (j + 1, a12, c12), by simp, ⟨by simp only; omega, u12.pick [0, 1] (by decide)⟩, by simp only; omega⟩
        · obtain rfl : j = row.length := by omega
          rw [List.take_length, ← hsucc] at u8
          rw [List.take_length, ← hsucc]
          (conv => whnf); rw [w64 (x := (i : Int) + 1) (by omega) (by omega)]
          exact ⟨rfl, (i + 1, a6, c6), by simp, ⟨by simp only; omega, u8⟩, by simp only; omega⟩
    · obtain rfl : i = nstA a := by omega
      have hall : setsTo a (nstA a) = setsA a := by unfold setsTo setsA; rw [← htl, List.take_length]
      have hTl := hT (nstA a)
      rw [hall] at u7 hTl
      rw [hall]
      have st7 : St H H6 [pB 58 p (nfL a (.slice ea a.edges.length ec))] := st3.call u7.old
      have hp7 := st7.blk 0 rfl
      have hw7 := u7.blk 0 rfl
      have hbeg : ∀ q ∈ lstS (begS a), a.has q = true := fun q hq => begS_has a q ((lstS_mem (has_rng (begS_has a)) q).1 hq)
      have hpow3 : PowH Tryd.prog H3 := hpow.agr st3.old
      have hnv6 : NetV (Old H6) H6 (.pointer (some ⟨nb, 0, none⟩)) a := (hnv0.frame u7.old).mono fun k hk => u7.up hk
      (conv => whnf)
      refine VSeq.cut (α := Unit) [12] (fun _ => [.string (nmB (lstS (begS a)))]) (fun _ H8 => Agr (Old H6) H6 H8) ?_ ?_
      · (conv => whnf); refine ld1 (v := .pointer (some ⟨nb, 0, none⟩)) ct128 (by rw [hw7.cell]; rfl) trivial ?_
        (conv => whnf); refine VC.fa fl58_1 ?_
        (conv => whnf); refine ld1 (v := .int .i64 a.start) ct3 (by rw [hp7.cell]; rfl) trivial ?_
        (conv => whnf); refine pures (nhas_p (hncells.eq (u7.old nb hnb))) fun H8 ha8 => ?_
        have st8 := st7.call ha8
        have u8 := u7.call ha8
        cases hst : a.has a.start with
        | false =>
          have e : lstS (begS a) = [] := by
            rw [lstS_uniq (X := begS a) (l := []) (has_rng (begS_has a)) List.Pairwise.nil fun q => ⟨fun h => (by cases h), fun h => by
              obtain ⟨r, ⟨-, h2⟩, -⟩ := h
              rw [hst] at h2; cases h2⟩]
          (conv => whnf)
          refine ⟨rfl, (), ?_, ha8⟩
          rw [e]
          rfl
        | true =>
          have hsr := NfM.has_iff.1 hst
          (conv => whnf); refine ld1 (v := .pointer (some ⟨nb, 0, none⟩)) ct128 (by rw [(u8.blk 0 rfl).cell]; rfl) trivial ?_
          (conv => whnf); refine VC.fa fl58_1 ?_
          (conv => whnf); refine ld1 (v := .int .i64 a.start) ct3 (by rw [(st8.blk 0 rfl).cell]; rfl) trivial ?_
          (conv => whnf); refine vbuild1 sl33 [.int .i64 a.start] rfl rfl (by decide) (by decide) ?_
          intro y H9 hy hs9 hb9 ha9
          have w9 : St H8 H9 [pS tIk 3 (some ⟨y, 0, none⟩) 1 1 [a.start]] := (St.nil H8).new (T := tIk) (n := 1) (xs := [a.start]) hy hs9 hb9 ha9 (Ty.reps_one ⟨rfl, kint ⟨hsr.1, by omega⟩⟩) rfl (by unfold maxLen; omega)
          (conv => whnf); refine VCall.mk (close_c (X := [a.start]) w9 (fun k hk => hk) ((hnv6.frame ha8).mono fun k hk => old_lt ha8 hk) (fun q hq => by rw [List.mem_singleton] at hq; subst hq; exact hst) (by simp only [List.length_cons, List.length_nil]; omega) hl (hpow3.agr (u8.old))) ?_
          rintro _ H10 ⟨rfl, ha10⟩
          have e : (fun q => q ∈ [a.start]) = fun q => q = a.start ∧ a.has a.start = true := funext fun q => propext (by simp [hst])
          (conv => whnf)
          refine ⟨rfl, (), ?_, ha8.trans (ha10.mono fun k hk => old_lt ha8 hk)⟩
          rw [e]
          rfl
      · rintro ⟨⟩ H8 junk8 ha8
        have st8 := st7.call ha8
        have u8 := u7.call ha8
        have hcs8 : SlD tSet (Old H8) H8 a5 c5 (setsA a) := u8.view 1 rfl
        (conv => whnf); refine VCall.mk (clsAtoms_c (fun k hk => hk) hcs8 (Nat.le_trans hTl hl)) ?_
        rintro _ H9 ⟨ha9, ca, cc, rfl, hat⟩
        have st9 := st8.call ha9
        have u9 := u8.call ha9
        have hnv9 : NetV (Old H9) H9 (.pointer (some ⟨nb, 0, none⟩)) a := (hnv0.frame u9.old).mono fun k hk => u9.up hk
        (conv => whnf); refine VCall.mk (explore_c (S := Old H9) (l0 := lstS (begS a)) (fun k hk => hk) (u9.in_ 0 rfl rfl).2 ((u9.blk 0 rfl).cells fun j v hv => by rw [Nat.zero_add]; exact hv) hnv9 (st9.in_ 0 rfl rfl).2 ((st9.blk 0 rfl).cells fun j v hv => by rw [Nat.zero_add]; exact hv) hl (hpow.agr st9.old) hat (reps_len _) hbeg (lstS_len _) hb1 hb2) ?_
        rintro r H10 ⟨ha10, hres⟩
        have st10 := st9.call ha10
        change match detF budget (stepA a) (repsM (setsA a)) (lstS (begS a)) with | none => _ | some (F, rows) => _ at hres
        cases hd : detF budget (stepA a) (repsM (setsA a)) (lstS (begS a)) with
        | none =>
          rw [hd] at hres
          simp only at hres
          subst hres
          (conv => whnf)
          refine ⟨st10.old, ?_⟩
          rw [hd]
        | some q =>
          obtain ⟨F, rows⟩ := q
          rw [hd] at hres
          obtain ⟨v, rfl, hv⟩ := hres
          (conv => whnf)
          refine ⟨st10.old, ?_⟩
          rw [hd]
          exact ⟨v, rfl, hv.mono fun k hk => ⟨Nat.le_trans (old_size st9.old) hk.1, hk.2⟩⟩
end Go.Proofs.YthomdogheamfpaaDoor
/- Copies of a table's parts: the laws' cells, the document's Rows. -/
set_option linter.unusedVariables false
set_option linter.unusedSimpArgs false
set_option maxRecDepth 100000
namespace Go.Proofs.YthomdogheamfpaaDoor
open Go.VC
attribute [local irreducible] mRun

theorem zero_set (S : Nat → Prop) (H : Heap) : tSet.rep S H ((Tryd.t73.zero.getD undef).cells.toList) 0#256 := by
  show _ = setL 0#256
  kernel_rfl
theorem rows_c (na : Option Addr) (nc : Nat) (next : List (List Int)) (S : Nat → Prop) (H : Heap) (hS : ∀ k, S k → k < H.size) (hc : SlD tRows S H na nc next) (hn : next.length ≤ 4194304) (hr : ∀ row ∈ next, row.length ≤ 4194304) :
    FnOk Tryd.prog 45 #[.slice na next.length nc] H fun v H' => Agr (Old H) H H' ∧ H.size ≤ H'.size ∧ ∃ b vs, v = .slice (some ⟨b, 0, none⟩) next.length next.length ∧ H.size ≤ b ∧
      Tab tI (fun _ => False) H' (b + 1) 3 b 33 vs next := by
  refine FnOk.of_vc Tryd.func45 rfl (Tryd.call45 _) ?_
  (conv => whnf); refine vmake1 sl23 rfl (by omega) (by omega) (by omega) (by omega) ?_
  intro nb H2 hnb hs2 hb2 ha2
  rw [Int.toNat_natCast] at hb2
  (conv => whnf)
  refine VLoop.mk [4] (fun k : Nat => [.int .i64 k]) (fun k H3 => k ≤ next.length ∧ Agr (fun j => j < H2.size ∧ j ≠ nb) H2 H3 ∧ H2.size ≤ H3.size ∧
    ∃ vs, Tab tI (fun _ => False) H3 (nb + 1) 3 nb 33 vs (next.take k ++ List.replicate (next.length - k) []) ∧ ∀ j, k ≤ j → j < next.length → vs[j]? = some (.slice none 0 0)) (fun k _ => next.length - k) ?_ ?_
  · (conv => whnf)
    refine ⟨0, rfl, by omega, Agr.refl _ _, by omega, List.replicate next.length (.slice none 0 0), ?_, fun j _ hj => by rw [List.getElem?_replicate, if_pos hj]⟩
    rw [fill_beg]
    exact Tab.new hb2 (by omega)
  · rintro k H3 junk ⟨hk, ha3, hs3, vs, htab, hvs⟩
    (conv => whnf); refine VIte.mk (fun h => ?_) (fun h => ?_) <;> simp only [decide_eq_true_eq, decide_eq_false_iff_not] at h
    · obtain ⟨row, hrow⟩ := get_some (l := next) (k := k) (by omega)
      have hrl := hr row (List.mem_of_getElem? hrow)
      have hv := hvs k (Nat.le_refl _) (by omega)
      have hA : Agr (Old H) H H3 := (ha2.mono fun j hj => by unfold Old at hj; omega).trans (ha3.mono fun j hj => by unfold Old at hj; omega)
      (conv => whnf); refine vbuild0 sl33 ?_
      intro q4 H4 hq4 hs4 hb4 ha4
      have hA4 := hA.trans (ha4.mono fun j hj => by unfold Old at hj; omega)
      (conv => whnf); refine ixr sl23 (hc.frame (hA4.mono hS)) hrow rfl ?_
      rintro b5 o5 cs5 hSb5 hcells5 ⟨ra, rc, rfl, hrow5⟩
      (conv => whnf); refine ld1 ct33 hcells5.one trivial ?_
      have hnb4 : nb < H4.size := by omega
      (conv => whnf); refine vappendD (T := tI) (S := fun j => j < H.size) (lo := nb + 1) (xs := []) sl33 (tInt_ones _) (SlO.empty (by omega) hb4) (by omega) (fun j hj => ⟨by omega, ?_⟩) (hrow5.mono hS) (by simp only [maxLen, List.length_nil]; omega) (by simp only [List.length_nil]; omega) ?_
      · rintro ⟨o, n, c, e⟩; cases e; omega
      intro v6 H6 hown6 ha6 hs6 hfresh6
      rw [List.nil_append] at hown6
      have htab4 := htab.agr ha4 (by omega) (fun b _ hb => by omega) (fun _ h => h.elim)
      have hq : ∀ j, slB (.slice (some ⟨q4, 0, none⟩) 0 0) j → j = q4 := by rintro j ⟨o, n, c, e⟩; cases e; rfl
      have hvl : k < vs.length := (List.getElem?_eq_some_iff.1 hv).1
      (conv => whnf); refine ix sl23 (by omega) (by omega) ?_
      (conv => whnf); refine st1 ct33 (htab4.blk.agr ha6 ⟨by omega, fun hb => by have := hq _ hb; omega⟩) (by simpa using hvl) hown6.one ?_
      intro H7 hb7 ha7 hs7
      rw [show 0 + (k : Int).toNat * 1 = k by omega] at hb7
      have h46 : Agr (fun j => j < H4.size ∧ j ≠ q4) H4 H6 := ha6.mono fun j hj => ⟨hj.1, fun hb => hj.2 (hq _ hb)⟩
      have h36 : Agr (fun j => j < H3.size ∧ ¬ slB (.slice none 0 0) j) H3 H6 := (ha4.mono fun j hj => by omega).trans (h46.mono fun j hj => by omega)
      have htab7 := htab.push hv (hown6.free (tInt_free _)) h36 (fun j hj => by
        rcases hfresh6 j hj with h | h
        · have := hq j h; omega
        · omega) hb7 ha7 (fun j hj => hj.elim)
      rw [fill_set hrow] at htab7
      (conv => whnf); rw [w64 (x := (k : Int) + 1) (by omega) (by omega)]
      refine ⟨rfl, k + 1, by simp, ⟨by omega, ?_, by omega, _, htab7, fun j hj1 hj2 => ?_⟩, by omega⟩
      · exact ((ha3.trans (ha4.mono fun j hj => by omega)).trans (h46.mono fun j hj => by omega)).trans (ha7.mono fun j hj => hj.2)
      · rw [List.getElem?_set_ne (by omega)]
        exact hvs j (by omega) hj2
    · obtain rfl : k = next.length := by omega
      rw [fill_end] at htab
      (conv => whnf)
      exact ⟨(ha2.mono fun j hj => by unfold Old at hj; omega).trans (ha3.mono fun j hj => by unfold Old at hj; omega), by omega, nb, vs, rfl, by omega, htab⟩

end Go.Proofs.YthomdogheamfpaaDoor
