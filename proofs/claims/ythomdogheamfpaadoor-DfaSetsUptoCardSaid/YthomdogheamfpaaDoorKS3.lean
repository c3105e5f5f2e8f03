/- Parts of the proof: PSetD, VSplit, VMapI, PNfa2, VHeldG, PSort, VRange, VPush, PKeyS, MDfa, PNfa3, PNfa4, PAppI, PDet1 -/
import Derived.Test.YthomdogheamfpaaDoorKS2
import Derived.Test.YthomdogheamfpaaDoorKS1
import Derived.Sort.OwnSortedInts
import Derived.Shelf.Sort.Plain
import Derived.Shelf.Slices.In.SortNone
import Derived.TacticsIn
import Derived.RangeFuncRecord
import Derived.Shelf.Strconv.AppendIntPublic10
/- Sets of bytes as 256 bools: From and Words. -/
set_option linter.unusedVariables false
set_option linter.unusedSimpArgs false
set_option maxRecDepth 100000
namespace Go.Proofs.YthomdogheamfpaaDoor
open Go.VC
def bitsTo (x : BitVec 256) (k : Nat) : List Value := (List.range 256).map fun b => .bool (decide (b < k) && x.getLsbD b)
def bitsL (x : BitVec 256) : List Value := bitsTo x 256
theorem bitsTo_len (x : BitVec 256) (k : Nat) : (bitsTo x k).length = 256 := by simp [bitsTo]
theorem bitsTo_get (x : BitVec 256) (k : Nat) {b : Nat} (h : b < 256) : (bitsTo x k)[b]? = some (.bool (decide (b < k) && x.getLsbD b)) := by
  unfold bitsTo
  rw [List.getElem?_map, List.getElem?_range h]; rfl
theorem bitsL_get (x : BitVec 256) {b : Nat} (h : b < 256) : (bitsL x)[b]? = some (.bool (x.getLsbD b)) := by
  unfold bitsL
  rw [bitsTo_get x 256 h]; simp [h]
theorem bitsTo_set (x : BitVec 256) {k : Nat} (h : k < 256) : (bitsTo x k).set k (.bool (x.getLsbD k)) = bitsTo x (k + 1) := by
  apply List.ext_getElem?
  intro i
  by_cases hi : i < 256
  · rw [bitsTo_get _ _ hi, List.getElem?_set, bitsTo_len]
    by_cases hik : k = i
    · subst hik; simp [h]
    · rw [if_neg hik, bitsTo_get _ _ hi]
      have : decide (i < k) = decide (i < k + 1) := decide_eq_decide.2 (by omega)
      rw [this]
  · rw [List.getElem?_eq_none (by simp [bitsTo_len]; omega), List.getElem?_eq_none (by simp [bitsTo_len]; omega)]
theorem bitsTo_zero (x : BitVec 256) : bitsTo x 0 = List.replicate 256 (.bool false) := by
  unfold bitsTo
  simp [List.map_const']
def tB : Ty (BitVec 256) where
  size := 256
  rep _ _ cs s := cs = bitsL s
  len h := by rw [h]; exact bitsTo_len _ _
  frame h _ := h
  mono h _ := h
theorem tB_free : tB.Free := fun S S' H H' cs x h => h
theorem bits_ones (x : BitVec 256) (k : Nat) : (bitsTo x k).all (·.oneCell') = true := by
  simp [bitsTo, Value.oneCell']
theorem tB_ones : tB.Ones := by
  rintro S H cs x rfl u hu
  exact List.all_eq_true.1 (bits_ones x 256) u hu
theorem word_bit (x : BitVec 256) (b : Nat) (hb : b < 256) : ((((wd x (b / 64) / 2 ^ (b % 64) % 2 : Nat) : Int) == (1 : Int))) = x.getLsbD b := by
  have h1 := wd_bit x (b / 64) (b % 64) (Nat.mod_lt _ (by decide))
  rw [show 64 * (b / 64) + b % 64 = b by omega] at h1
  rw [← h1, Nat.testBit_eq_decide_div_mod_eq]
  have := Nat.mod_two_eq_zero_or_one (wd x (b / 64) / 2 ^ (b % 64))
  rcases this with h | h <;> simp [h]

theorem from_p (x : BitVec 256) (H : Heap) : Pure Tryd.prog 81 #[.agg (setL x).toArray] H (.agg (bitsL x).toArray) := by
  refine FnOk.of_vc Tryd.func81 rfl (Tryd.call81 _) ?_
  (conv => whnf); refine vbox (setL x) rfl ?_
  intro p1 H1 hp1 hs1 hb1 ha1
  (conv => whnf); refine valloc _ (List.replicate 256 (.bool false)) rfl rfl ?_
  intro p2 H2 hp2 hs2 hb2 ha2
  (conv => whnf); refine valloc _ (List.replicate 256 (.bool false)) rfl rfl ?_
  intro p3 H3 hp3 hs3 hb3 ha3
  (conv => whnf)
  refine VLoop.mk [4] (fun k : Nat => [.int .i64 k]) (fun k H4 => k ≤ 256 ∧ Agr (fun j => j < p3) H3 H4 ∧ H4.size = H3.size ∧ Blk H4 p3 112 (bitsTo x k)) (fun k _ => 256 - k) ?_ ?_
  · (conv => whnf)
    exact ⟨0, rfl, by omega, Agr.refl _ _, rfl, by rw [bitsTo_zero]; exact hb3⟩
  · rintro k H4 junk ⟨hk, ha4, hs4, hb4⟩
    have hb1' := ((hb1.agr ha2 (show p1 < p2 by omega)).agr ha3 (show p1 < p3 by omega)).agr ha4 (show p1 < p3 by omega)
    (conv => whnf); refine VIte.mk (fun h => ?_) (fun h => ?_) <;> simp only [decide_eq_true_eq, decide_eq_false_iff_not] at h
    · have hk6 : k / 64 < 4 := by omega
      (conv => whnf); refine vquo (b := 64) (by decide) (inI64 (by omega)) ?_
      (conv => whnf); refine ixa ar70 (by omega) (by omega) ?_
      (conv => whnf); refine ld1 (v := .int .u64 (wd x (k / 64))) ct69 ?_ trivial ?_
      · rw [hb1'.cell, show 0 + (((k / 64 : Nat) : Int)).toNat * 1 = k / 64 by omega]
        have := setL_get x k (by omega)
        rwa [show k / 2 ^ 6 = k / 64 by rfl] at this
      (conv => whnf); refine vrem (b := 64) (by decide) ?_
      (conv => whnf); rw [wrap_in (k := .u64) (inU64 (x := k % 64) (by omega))]
      (conv => whnf); refine vshr (k := .u64) (b := k % 64) (by show k % 64 ≤ 64; omega) ?_
      (conv => whnf); refine vrem (k := .u64) (b := 2) (by decide) ?_
      (conv => whnf); refine ixa ar112 (by omega) (by omega) ?_
      rw [word_bit x k (by omega)]
      (conv => whnf); refine st1 ct4 hb4 (by rw [bitsTo_len]; omega) rfl ?_
      intro H5 hb5 ha5 hs5
      rw [show 0 + ((k : Nat) : Int).toNat * 1 = k by omega, bitsTo_set x (by omega)] at hb5
      (conv => whnf); rw [w64 (x := (k : Int) + 1) (by omega) (by omega)]
      exact ⟨rfl, k + 1, by simp, ⟨by omega, ha4.trans (ha5.mono fun j hj => by omega), by omega, hb5⟩, by omega⟩
    · obtain rfl : k = 256 := by omega
      (conv => whnf); refine ldN (cs := bitsL x) (by rw [show (bitsL x).length = 256 from bitsTo_len _ _]; exact ag112) (hb4.cells fun j v hv => by rw [Nat.zero_add]; exact hv) trivial ?_
      (conv => whnf); refine VC.stN (cs := bitsL x) (by rw [show (bitsL x).length = 256 from bitsTo_len _ _]; rfl) ((hb2.agr ha3 (show p2 < p3 by omega)).agr ha4 (show p2 < p3 by omega)) (by rw [show (bitsL x).length = 256 from bitsTo_len _ _]; simp) (bits_ones x 256) ?_
      intro H6 hb6 ha6 hs6
      have hsp : splice (List.replicate 256 (.bool false)) 0 (bitsL x) = bitsL x := by
        unfold splice
        rw [show (bitsL x).length = 256 from bitsTo_len _ _]
        simp
      rw [hsp] at hb6
      (conv => whnf); refine ldN (cs := bitsL x) (by rw [show (bitsL x).length = 256 from bitsTo_len _ _]; exact ag112) (hb6.cells fun j v hv => by rw [Nat.zero_add]; exact hv) trivial ?_
      exact ⟨rfl, (((ha1.mono fun j hj => by omega).trans (ha2.mono fun j hj => by omega)).trans (ha3.mono fun j hj => by omega)).trans ((ha4.mono fun j hj => by omega).trans (ha6.mono fun j hj => by omega))⟩

/-! ### sets as functions -/
def funL (f : Nat → Bool) : List Value := (List.range 256).map fun b => .bool (f b)
theorem funL_len (f : Nat → Bool) : (funL f).length = 256 := by simp [funL]
theorem funL_get (f : Nat → Bool) {b : Nat} (h : b < 256) : (funL f)[b]? = some (.bool (f b)) := by
  unfold funL
  rw [List.getElem?_map, List.getElem?_range h]; rfl
theorem funL_ext {f g : Nat → Bool} (h : ∀ b, b < 256 → f b = g b) : funL f = funL g := by
  unfold funL
  exact List.map_congr_left fun b hb => by rw [h b (List.mem_range.1 hb)]
theorem funL_set (f : Nat → Bool) {k : Nat} (h : k < 256) : (funL f).set k (.bool true) = funL fun b => decide (b = k) || f b := by
  apply List.ext_getElem?
  intro i
  by_cases hi : i < 256
  · rw [funL_get _ hi, List.getElem?_set, funL_len]
    by_cases hik : k = i
    · subst hik; simp [h]
    · rw [if_neg hik, funL_get _ hi, decide_eq_false (Ne.symm hik)]; rfl
  · rw [List.getElem?_eq_none (by simp [funL_len]; omega), List.getElem?_eq_none (by simp [funL_len]; omega)]
theorem funL_ones (f : Nat → Bool) : (funL f).all (·.oneCell') = true := by simp [funL, Value.oneCell']
theorem funL_zero : funL (fun _ => false) = List.replicate 256 (.bool false) := by
  unfold funL
  rw [List.map_const', List.length_range]
def tF : Ty (Nat → Bool) where
  size := 256
  rep _ _ cs f := cs = funL f
  len h := by rw [h]; exact funL_len _
  frame h _ := h
  mono h _ := h
theorem tF_free : tF.Free := fun S S' H H' cs x h => h
theorem tF_ones : tF.Ones := by
  rintro S H cs x rfl u hu
  exact List.all_eq_true.1 (funL_ones x) u hu
theorem splice_all {l c : List Value} (h : c.length = l.length) : splice l 0 c = c := by
  unfold splice
  rw [List.take_zero, List.nil_append, Nat.zero_add, h, List.drop_length, List.append_nil]

/-! ### Words -/
def wv (x : BitVec 256) (i m : Nat) : Nat := wd x i / 2 ^ (min 64 (m - 64 * i))
def wvL (x : BitVec 256) (m : Nat) : List Value := (List.range 4).map fun i => .int .u64 (wv x i m : Int)
theorem wvL_get (x : BitVec 256) (m : Nat) {i : Nat} (h : i < 4) : (wvL x m)[i]? = some (.int .u64 (wv x i m : Int)) := by
  unfold wvL
  rw [List.getElem?_map, List.getElem?_range h]; rfl
theorem wvL_len (x : BitVec 256) (m : Nat) : (wvL x m).length = 4 := by simp [wvL]
theorem wv_other (x : BitVec 256) {b j : Nat} (h : j ≠ b / 64) : wv x j b = wv x j (b + 1) := by
  unfold wv
  rcases Nat.lt_or_ge j (b / 64) with h1 | h1
  · rw [show min 64 (b - 64 * j) = 64 by omega, show min 64 (b + 1 - 64 * j) = 64 by omega]
  · rw [show min 64 (b - 64 * j) = 0 by omega, show min 64 (b + 1 - 64 * j) = 0 by omega]
theorem wv_step (x : BitVec 256) (b : Nat) : wv x (b / 64) b = wv x (b / 64) (b + 1) * 2 + (if x.getLsbD b then 1 else 0) := by
  unfold wv
  rw [show min 64 (b - 64 * (b / 64)) = b % 64 by omega, show min 64 (b + 1 - 64 * (b / 64)) = b % 64 + 1 by omega]
  have h1 := wd_bit x (b / 64) (b % 64) (Nat.mod_lt _ (by decide))
  rw [show 64 * (b / 64) + b % 64 = b by omega, Nat.testBit_eq_decide_div_mod_eq] at h1
  have h4 : wd x (b / 64) / 2 ^ (b % 64) / 2 = wd x (b / 64) / 2 ^ (b % 64 + 1) := by rw [Nat.div_div_eq_div_mul, ← Nat.pow_succ]
  rw [← h1, ← h4]
  generalize wd x (b / 64) / 2 ^ (b % 64) = a
  have h3 := Nat.mod_two_eq_zero_or_one a
  have h5 : (if decide (a % 2 = 1) = true then 1 else 0) = a % 2 := by rcases h3 with h | h <;> rw [h] <;> rfl
  rw [h5]
  omega
theorem wv_lt (x : BitVec 256) (b : Nat) : wv x (b / 64) (b + 1) * 2 + 1 < 18446744073709551616 := by
  unfold wv
  rw [show min 64 (b + 1 - 64 * (b / 64)) = b % 64 + 1 by omega]
  have h1 := wd_lt x (b / 64)
  have h2 : wd x (b / 64) / 2 ^ (b % 64 + 1) ≤ wd x (b / 64) / 2 ^ 1 := Nat.div_le_div_left (Nat.pow_le_pow_right (by decide) (by omega)) (by decide)
  omega
theorem wvL_put (x : BitVec 256) (b : Nat) (hb : b < 256) : (wvL x (b + 1)).set (b / 64) (.int .u64 (wv x (b / 64) b : Int)) = wvL x b := by
  apply List.ext_getElem?
  intro j
  by_cases hj : j < 4
  · rw [wvL_get x b hj, List.getElem?_set, wvL_len]
    by_cases h : b / 64 = j
    · subst h; simp [hj]
    · rw [if_neg h, wvL_get x (b + 1) hj, wv_other x (Ne.symm h)]
  · rw [List.getElem?_eq_none (by simp [wvL_len]; omega), List.getElem?_eq_none (by simp [wvL_len]; omega)]
theorem wvL_top (x : BitVec 256) : wvL x 256 = [.int .u64 0, .int .u64 0, .int .u64 0, .int .u64 0] := by
  have key : ∀ i, i < 4 → wv x i 256 = 0 := fun i hi => by
    unfold wv
    rw [show min 64 (256 - 64 * i) = 64 by omega]
    exact Nat.div_eq_of_lt (wd_lt x i)
  simp [wvL, List.range, List.range.loop, key]
theorem wvL_end (x : BitVec 256) : wvL x 0 = setL x := by
  simp [wvL, List.range, List.range.loop, wv, setL]
theorem set_lits4 (s : BitVec 256) : Tryd.prog.keyLits 2 70 (setL s) = some (setLits s) := by
  have c1 : Tryd.prog.cellsOf 70 = 4 := rfl
  have c2 : Tryd.prog.cellsOf 69 = 1 := rfl
  simp [Program.keyLits, Tryd.underlying70, Tryd.underlying69, c1, c2, setL, setLits, set_wf, List.range, List.range.loop]
theorem set_neq4 (a b : BitVec 256) {x y : Operand} {S : Nat → Prop} {H : Heap} {K : Value → Prop} (k : K (.bool (!decide (a = b)))) :
    VDet Tryd.prog (do eqGuard .neq 70 x y (setV a) (setV b); binOp .neq 70 (setV a) (setV b)) S H K :=
  vneq (m := 2) (la := setLits a) (lb := setLits b) rfl (by decide) (Tryd.eqGuardType70) rfl rfl (set_lits4 a) (set_lits4 b) (setLits_inj a b) k
end Go.Proofs.YthomdogheamfpaaDoor
/- A piece split in two; a map of slices that is only read from now on; keys that are texts. -/
set_option linter.unusedVariables false
set_option linter.unusedSimpArgs false
namespace Go.VC
section
variable {B : Nat → Prop} {H0 H : Heap} {ps : List Pc} {p : Pc}
theorem StB.apart2 (st : StB B H0 H ps) {i j : Nat} {q : Pc} (hp : ps[i]? = some p) (hq : ps[j]? = some q) (hij : i ≠ j) : Dis p q := by
  have hil := (List.getElem?_eq_some_iff.1 hp).1
  have hjl := (List.getElem?_eq_some_iff.1 hq).1
  have e1 := (List.getElem?_eq_some_iff.1 hp).2
  have e2 := (List.getElem?_eq_some_iff.1 hq).2
  intro k hk hk'
  rcases Nat.lt_or_gt_of_ne hij with h | h
  · exact List.pairwise_iff_getElem.1 st.dis i j hil hjl h k (by rw [e1]; exact hk) (by rw [e2]; exact hk')
  · exact List.pairwise_iff_getElem.1 st.dis j i hjl hil h k (by rw [e2]; exact hk') (by rw [e1]; exact hk)
theorem StB.split (st : StB B H0 H ps) (i : Nat) (hp : ps[i]? = some p) (q r : Pc) (hq : q.ok H) (hr : r.ok H) (fq : ∀ k, q.foot k → p.foot k) (fr : ∀ k, r.foot k → p.foot k) (hd : Dis q r) : StB B H0 H (ps.set i q ++ [r]) := by
  have st1 := st.say i hp q hq fq
  have hil := (List.getElem?_eq_some_iff.1 hp).1
  refine ⟨st.old, st.lt0, st.size, fun s hs => ?_, fun s hs k hk => ?_, List.pairwise_append.2 ⟨st1.dis, List.pairwise_singleton _ _, fun s hs t ht => ?_⟩⟩
  · rcases List.mem_append.1 hs with hs | hs
    · exact st1.oks s hs
    · rw [List.mem_singleton] at hs; subst hs; exact hr
  · rcases List.mem_append.1 hs with hs | hs
    · exact st1.rng s hs k hk
    · rw [List.mem_singleton] at hs; subst hs
      exact st.in_ i hp (fr k hk)
  · rw [List.mem_singleton] at ht; subst ht
    obtain ⟨j, hj⟩ := List.getElem?_of_mem hs
    by_cases hji : i = j
    · subst hji
      rw [List.getElem?_set_self hil] at hj
      cases hj; exact hd
    · rw [List.getElem?_set_ne hji] at hj
      exact fun k hk hk' => st.apart2 hj hp (Ne.symm hji) k hk (fr k hk')
end
section
variable {α β : Type} {Ok : α → Prop} {enc : α → Value} {T : Ty β} {e : TypeId} {b : Nat} {m : α → Option Value} {xs : α → List β} {B : Nat → Prop} {H0 H : Heap} {ps : List Pc}
/-- The slices of a map, without the map. -/
def pVs (T : Ty β) (e : TypeId) (m : α → Option Value) (xs : α → List β) : Pc where
  foot k := ∃ a, slB (slAt m a) k
  ok H := ∀ a, SlO T none_ H 0 e (slAt m a) (xs a)
  fr h hp := fun a => (hp a).agr h (fun k hk => ⟨a, hk⟩) (fun _ hk => hk.elim)
theorem StB.mqSplit (st : StB B H0 H ps) (i : Nat) (hp : ps[i]? = some (pMQ Ok enc T e b m xs)) : StB B H0 H (ps.set i (pMW Ok enc b m) ++ [pVs T e m xs]) := by
  obtain ⟨h1, h2, h3, h4⟩ := st.at_ i hp
  refine st.split i hp (pMW Ok enc b m) (pVs T e m xs) h1 h2 (fun k hk => .inl hk) (fun k hk => .inr hk) ?_
  rintro k hk ⟨a, ha⟩
  have e : k = b := hk
  subst e
  exact h4 a ha
theorem StB.vsView (st : StB B H0 H ps) (i : Nat) (hp : ps[i]? = some (pVs T e m xs)) (a : α) : ∃ ad cap, slAt m a = .slice ad (xs a).length cap ∧ SlD T (Old H) H ad cap (xs a) := by
  obtain ⟨ad, cap, h1, h2, -⟩ := (st.at_ i hp a).view (S' := Old H) (fun k hk => (st.in_ i hp ⟨a, hk⟩).2) (fun _ hk => hk.elim)
  exact ⟨ad, cap, h1, h2⟩
theorem StB.mqExt {ys : α → List β} (st : StB B H0 H ps) (i : Nat) (hp : ps[i]? = some (pMQ Ok enc T e b m xs)) (h : ∀ a, xs a = ys a) : StB B H0 H (ps.set i (pMQ Ok enc T e b m ys)) := by
  obtain rfl : xs = ys := funext h
  exact st.say i hp _ (st.at_ i hp) (fun k hk => hk)
end
/-- Every key. -/
abbrev anyK {α : Type} (_ : α) : Prop := True
theorem MapF.toW {α : Type} {enc : α → Value} {H : Heap} {b : Nat} {m : α → Option Value} (h : MapF enc H b m) : MapW anyK enc H b m := ⟨h, fun _ _ _ => trivial⟩
theorem KeyW.ofE {P : Program} {kt : TypeId} {d : TypeDesc} {α : Type} {enc : α → Value} (hd : P.underlying kt = some d) (hk : KeyE d enc) : KeyW P kt anyK enc where
  inj := hk.inj
  check w em a _ := Go.MapKept.run_checkKey hd (hk.isKey a) em 9999
  find w a _ es hes := by
    have hall : ∀ x ∈ es, Go.MapKept.IsKey d x.key := fun x hx => by
      obtain ⟨b, -, e⟩ := hes x hx
      rw [e]; exact hk.isKey b
    rcases Go.MapKept.findNow_spec (hk.isKey a) es 0 hall with ⟨h1, h2⟩ | ⟨j, e, h1, h2, h3⟩
    · exact .inl ⟨Go.MapKept.run_findKey hd h1, h2⟩
    · exact .inr ⟨j, e, by rw [Nat.zero_add] at h1; exact Go.MapKept.run_findKey hd h1, h2, h3⟩
  stays w a _ := Go.MapKept.run_keyThatStays (hk.isKey a)
theorem strV_inj (a b : ByteArray) (h : Value.string a = Value.string b) : a = b := by cases h; rfl
end Go.VC
/- Taking a map's slice out, and laying it again by an update. -/
set_option linter.unusedVariables false
set_option linter.unusedSimpArgs false
namespace Go.VC
section
variable {α β : Type} {Ok : α → Prop} {enc : α → Value} {T : Ty β} {e : TypeId} {b : Nat} {m : α → Option Value} {xs : α → List β} {B : Nat → Prop} {H0 H H' : Heap} {ps : List Pc} {P : Program} {t kt et : TypeId} {a : α}
/-- The slice at a is out, as v, holding x; the map itself is as it was. -/
def pMQo (Ok : α → Prop) (enc : α → Value) (T : Ty β) (e : TypeId) (b : Nat) (m : α → Option Value) (xs : α → List β) (a : α) (v : Value) (x : List β) : Pc where
  foot k := k = b ∨ slB v k ∨ ∃ c, c ≠ a ∧ slB (slAt m c) k
  ok H := MapW Ok enc H b m ∧ SlO T none_ H 0 e v x ∧ (∀ c, c ≠ a → SlO T none_ H 0 e (slAt m c) (xs c)) ∧ (∀ c c' k, c ≠ a → c' ≠ a → c ≠ c' → slB (slAt m c) k → ¬ slB (slAt m c') k) ∧ (∀ c k, c ≠ a → slB (slAt m c) k → ¬ slB v k) ∧ (∀ c, c ≠ a → ¬ slB (slAt m c) b) ∧ ¬ slB v b
  fr h hp := ⟨hp.1.agr h (.inl rfl), hp.2.1.agr h (fun k hk => .inr (.inl hk)) (fun _ hk => hk.elim), fun c hc => (hp.2.2.1 c hc).agr h (fun k hk => .inr (.inr ⟨c, hc, hk⟩)) (fun _ hk => hk.elim), hp.2.2.2⟩
theorem StB.mqOut (st : StB B H0 H ps) (i : Nat) (hp : ps[i]? = some (pMQ Ok enc T e b m xs)) (a : α) : StB B H0 H (ps.set i (pMQo Ok enc T e b m xs a (slAt m a) (xs a))) := by
  obtain ⟨hmap, hown, hap, hb⟩ := st.at_ i hp
  refine st.say i hp _ ⟨hmap, hown a, fun c _ => hown c, fun c c' k _ _ hcc => hap c c' k hcc, fun c k hc => hap c a k hc, fun c _ => hb c, hb a⟩ fun k hk => ?_
  rcases hk with hk | hk | ⟨c, -, hk⟩
  · exact .inl hk
  · exact .inr ⟨a, hk⟩
  · exact .inr ⟨c, hk⟩
theorem appQo {ty q o l cap2 by_ : Nat} {z v : Value} {x : List β} {ys : List β} {ds : List Value} {tt : TypeId} {K : Value → Heap → Prop} (st : StB B H0 H ps) (i : Nat) (ht : SlT P tt e T.size by_ z) (hp : ps[i]? = some (pMQo Ok enc T e b m xs a v x))
    (hd : Cells H q o ds) (hy : T.reps none_ H ds ys) (hl : l = ys.length) (h1 : ∀ u ∈ ds, u.oneCell' = true) (h63 : x.length + ys.length ≤ maxLen) (hby : (x.length + ys.length) * by_ ≤ 140737488355328)
    (k : ∀ v' H', StB B H0 H' (ps.set i (pMQo Ok enc T e b m xs a v' (x ++ ys))) → Agr (fun k => k < H.size ∧ ¬ slB v k) H H' → K v' H') :
    VEff P (Builtin.append_ #[tt, tt] ty [v, .slice (some ⟨q, o, none⟩) l cap2].toArray) H K := by
  obtain ⟨hmap, hv, hown, hap, hapv, hb, hvb⟩ := st.at_ i hp
  have hlt : ∀ c, c ≠ a → ∀ k, slB (slAt m c) k → k < H.size := fun c hc k hk => (st.in_ i hp (.inr (.inr ⟨c, hc, hk⟩))).2
  have hbl : b < H.size := (st.in_ i hp (.inl rfl)).2
  refine vappendO (T := T) (S := none_) (lo := 0) ht hv (Nat.zero_le _) (fun k hk => hk.elim) hd hy hl h1 h63 hby ?_
  intro v' H' hv' hagr hsz hfr
  refine k v' H' (st.upd i hp (hagr.mono fun k hk => ⟨hk.1, fun hb => hk.2 (.inr (.inl hb))⟩) (pMQo Ok enc T e b m xs a v' (x ++ ys)) ⟨hmap.agr hagr ⟨hbl, hvb⟩, hv', fun c hc => (hown c hc).agr hagr (fun k hk => ⟨hlt c hc k hk, hapv c k hc hk⟩) (fun _ hk => hk.elim), hap, fun c k hc hk hk' => ?_, hb, fun hk => ?_⟩ (fun k hk => ?_) (fun k hk => ?_) hsz) hagr
  · rcases hfr k hk' with h | h
    · exact hapv c k hc hk h
    · have := hlt c hc k hk; omega
  · rcases hfr b hk with h | h
    · exact hvb h
    · omega
  · rcases hk with hk | hk | hk
    · exact .inl (.inl hk)
    · rcases hfr k hk with h | h
      · exact .inl (.inr (.inl h))
      · exact .inr h
    · exact .inl (.inr (.inr hk))
  · rcases hk with hk | hk | ⟨c, hc, hk⟩
    · have : k = b := hk; omega
    · exact (hv'.lt hk).2
    · have := hlt c hc k hk; omega
theorem mputQo {v : Value} {x : List β} {z : Value} {K : Heap → Prop} (st : StB B H0 H ps) (i : Nat) (ht : MapTW P t kt et z) (hk : KeyW P kt Ok enc) (ha : Ok a) (hp : ps[i]? = some (pMQo Ok enc T e b m xs a v x))
    (k : ∀ m' H', StB B H0 H' (ps.set i (pMQ Ok enc T e b m' (upd xs a x))) → K H') : VEffU P (Instr.mapUpdate t (.map (some b)) (enc a) v) H K := by
  obtain ⟨hmap, hv, hown, hap, hapv, hb, hvb⟩ := st.at_ i hp
  refine mputW ht hk ha hmap ?_
  intro H' h1 h2 h3
  have e1 : slAt (put m a (some v)) a = v := slAt_put m a v
  have e2 : ∀ c, c ≠ a → slAt (put m a (some v)) c = slAt m c := fun c hc => slAt_ne hc
  refine k _ H' (st.upd i hp (h2.mono fun k hk hkb => hk.2 (.inl hkb)) (pMQ Ok enc T e b (put m a (some v)) (upd xs a x)) ⟨h1, fun c => ?_, fun c c' k hcc => ?_, fun c => ?_⟩ (fun k hk => ?_) (fun k hk => ?_) (by omega))
  · by_cases hc : c = a
    · subst hc; rw [e1, upd_self]; exact hv.agr h2 (fun k hk hkb => hvb (hkb ▸ hk)) (fun _ hk => hk.elim)
    · rw [e2 c hc, upd_ne hc]; exact (hown c hc).agr h2 (fun k hk hkb => hb c hc (hkb ▸ hk)) (fun _ hk => hk.elim)
  · by_cases hc : c = a
    · subst hc
      rw [e1, e2 c' (Ne.symm hcc)]
      exact fun h1 h2 => hapv c' _ (Ne.symm hcc) h2 h1
    · by_cases hc' : c' = a
      · subst hc'
        rw [e1, e2 c hc]
        exact hapv c _ hc
      · rw [e2 c hc, e2 c' hc']; exact hap c c' k hc hc' hcc
  · by_cases hc : c = a
    · subst hc; rw [e1]; exact hvb
    · rw [e2 c hc]; exact hb c hc
  · refine .inl ?_
    rcases hk with hk | ⟨c, hk⟩
    · exact .inl hk
    · by_cases hc : c = a
      · subst hc; rw [e1] at hk; exact .inr (.inl hk)
      · rw [e2 c hc] at hk; exact .inr (.inr ⟨c, hc, hk⟩)
  · rw [h3]
    rcases hk with hk | ⟨c, hk⟩
    · exact (st.in_ i hp (.inl hk)).2
    · by_cases hc : c = a
      · subst hc; rw [e1] at hk; exact (st.in_ i hp (.inr (.inl hk))).2
      · rw [e2 c hc] at hk; exact (st.in_ i hp (.inr (.inr ⟨c, hc, hk⟩))).2
end
end Go.VC
/- Nondeterministic automata in memory. -/
set_option linter.unusedVariables false
set_option linter.unusedSimpArgs false
set_option maxRecDepth 100000
namespace Go.Proofs.YthomdogheamfpaaDoor
open Go.VC
/-- An edge of the program's. -/
def edL (e : EdM) : List Value := [.int .i64 e.fr, .int .i64 e.to, .bool e.sil, .int .u64 (wd e.set 0), .int .u64 (wd e.set 1), .int .u64 (wd e.set 2), .int .u64 (wd e.set 3)]
theorem edL_set (e : EdM) : ∀ (j : Nat) (v : Value), (setL e.set)[j]? = some v → (edL e)[3 + j]? = some v := by
  intro j v h
  rw [show 3 + j = j + 3 by omega]
  exact h
def EdM.Ok (e : EdM) : Prop := inK .i64 e.fr ∧ inK .i64 e.to
def tEd : Ty EdM where
  size := 7
  rep _ _ cs e := cs = edL e ∧ e.Ok
  len h := by rw [h.1]; rfl
  frame h _ := h
  mono h _ := h
theorem ed_ones (e : EdM) : (edL e).all (·.oneCell') = true := rfl
theorem tEd_ones : tEd.Ones := by
  rintro S H cs e ⟨rfl, -⟩ u hu
  exact List.all_eq_true.1 (ed_ones e) u hu
theorem tEd_free : tEd.Free := fun S S' H H' cs e h => h
/-- An edge of the document's. -/
def edDL (e : EdM) : List Value := [.int .i64 e.fr, .int .i64 e.to, .bool e.sil] ++ bitsL e.set
theorem edDL_len (e : EdM) : (edDL e).length = 259 := by
  unfold edDL
  rw [List.length_append, show (bitsL e.set).length = 256 from bitsTo_len _ _]
  rfl
def tEdD : Ty EdM where
  size := 259
  rep _ _ cs e := cs = edDL e ∧ e.Ok
  len h := by rw [h.1]; exact edDL_len _
  frame h _ := h
  mono h _ := h
theorem edD_ones (e : EdM) : (edDL e).all (·.oneCell') = true := by
  unfold edDL
  rw [List.all_append, bitsL, bits_ones]
  rfl
theorem tEdD_ones : tEdD.Ones := by
  rintro S H cs e ⟨rfl, -⟩ u hu
  exact List.all_eq_true.1 (edD_ones e) u hu
theorem tEdD_free : tEdD.Free := fun S S' H H' cs e h => h
theorem edDL_bit (e : EdM) {b : Nat} (h : b < 256) : (edDL e)[3 + b]? = some (.bool (e.set.getLsbD b)) := by
  unfold edDL
  rw [List.getElem?_append_right (by simp)]
  simpa using bitsL_get e.set h
def NfM.Rng (a : NfM) : Prop := inK .i64 a.st ∧ inK .i64 a.start ∧ inK .i64 a.fin
def nfL (a : NfM) (v : Value) : List Value := [.int .i64 a.st, .int .i64 a.start, .int .i64 a.fin, v]
/-- An automaton of the program's, to be read. -/
def NfV (S : Nat → Prop) (H : Heap) (v : Value) (a : NfM) : Prop := a.Rng ∧ a.edges.length ≤ 1048576 ∧ ∃ ea ec, v = .agg (nfL a (.slice ea a.edges.length ec)).toArray ∧ SlD tEd S H ea ec a.edges
/-- The document's. -/
def NdV (S : Nat → Prop) (H : Heap) (v : Value) (a : NfM) : Prop := a.Rng ∧ a.edges.length ≤ 1048576 ∧ ∃ ea ec, v = .agg (nfL a (.slice ea a.edges.length ec)).toArray ∧ SlD tEdD S H ea ec a.edges
section
variable {S S' : Nat → Prop} {H H' : Heap} {v : Value} {a : NfM}
theorem NfV.frame (h : NfV S H v a) (k : Agr S H H') : NfV S H' v a := by
  obtain ⟨h1, h0, ea, ec, h2, h3⟩ := h
  exact ⟨h1, h0, ea, ec, h2, h3.frame k⟩
theorem NfV.mono (h : NfV S H v a) (k : ∀ i, S i → S' i) : NfV S' H v a := by
  obtain ⟨h1, h0, ea, ec, h2, h3⟩ := h
  exact ⟨h1, h0, ea, ec, h2, h3.mono k⟩
theorem NdV.frame (h : NdV S H v a) (k : Agr S H H') : NdV S H' v a := by
  obtain ⟨h1, h0, ea, ec, h2, h3⟩ := h
  exact ⟨h1, h0, ea, ec, h2, h3.frame k⟩
theorem NdV.mono (h : NdV S H v a) (k : ∀ i, S i → S' i) : NdV S' H v a := by
  obtain ⟨h1, h0, ea, ec, h2, h3⟩ := h
  exact ⟨h1, h0, ea, ec, h2, h3.mono k⟩
end
theorem edge_z : (Tryd.prog.info? 75).bind (·.zero) = some (.agg #[.int .i64 0, .int .i64 0, .bool false, .int .u64 0, .int .u64 0, .int .u64 0, .int .u64 0]) := rfl
theorem nfa_z : (Tryd.prog.info? 58).bind (·.zero) = some (.agg #[.int .i64 0, .int .i64 0, .int .i64 0, .slice none 0 0]) := rfl
theorem nfd_z : (Tryd.prog.info? 67).bind (·.zero) = some (.agg #[.int .i64 0, .int .i64 0, .int .i64 0, .slice none 0 0]) := rfl
def edDZ : Value := Value.agg (([Value.int .i64 0, Value.int .i64 0, Value.bool false] : List Value) ++ List.replicate 256 (Value.bool false)).toArray
def edZL : List Value := ([Value.int .i64 0, Value.int .i64 0, Value.bool false] : List Value) ++ List.replicate 256 (Value.bool false)
theorem edZL_len : edZL.length = 259 := by simp [edZL]
theorem edgeD_z : (Tryd.prog.info? 143).bind (·.zero) = some edDZ := by kernel_rfl
theorem edge_fill (x y : Int) (b : Bool) (w0 w1 w2 w3 : Value) {S : Nat → Prop} {H : Heap} {K : Value → Prop} (h0 : w0.oneCell' = true) (h1 : w1.oneCell' = true) (h2 : w2.oneCell' = true) (h3 : w3.oneCell' = true) (k : K (.agg [.int .i64 x, .int .i64 y, .bool b, w0, w1, w2, w3].toArray)) :
    VDet Tryd.prog (Instr.build 75 [(0, .int .i64 x), (1, .int .i64 y), (2, .bool b), (3, .agg [w0, w1, w2, w3].toArray)].toArray) S H K :=
  vbuildS Tryd.underlying75 rfl _ edge_z [.int .i64 x, .int .i64 y, .bool b, w0, w1, w2, w3] (by kernel_rfl) k
theorem edge_build (e : EdM) {S : Nat → Prop} {H : Heap} {K : Value → Prop} (k : K (.agg (edL e).toArray)) :
    VDet Tryd.prog (Instr.build 75 [(0, .int .i64 e.fr), (1, .int .i64 e.to), (2, .bool e.sil), (3, .agg (setL e.set).toArray)].toArray) S H K := by
  unfold setL edL at *
  exact edge_fill e.fr e.to e.sil _ _ _ _ rfl rfl rfl rfl k
theorem fill4 {place : Nat → Option (Nat × Nat)} {c0 c1 c2 v0 v1 v2 : Value} {zs bs : List Value} (hl : bs.length = zs.length) (p0 : place 0 = some (0, 1)) (p1 : place 1 = some (1, 1)) (p2 : place 2 = some (2, 1)) (p3 : place 3 = some (3, zs.length))
    (h0 : v0.cells = #[v0]) (h1 : v1.cells = #[v1]) (h2 : v2.cells = #[v2]) : Instr.fill place ([c0, c1, c2] ++ zs).toArray [(0, v0), (1, v1), (2, v2), (3, .agg bs.toArray)] = some ([v0, v1, v2] ++ bs).toArray := by
  have e0 : splice ([c0, c1, c2] ++ zs) 0 [v0] = [v0, c1, c2] ++ zs := rfl
  have e1 : splice ([v0, c1, c2] ++ zs) 1 [v1] = [v0, v1, c2] ++ zs := rfl
  have e2 : splice ([v0, v1, c2] ++ zs) 2 [v2] = [v0, v1, v2] ++ zs := rfl
  have e3 : splice ([v0, v1, v2] ++ zs) 3 bs = [v0, v1, v2] ++ bs := by
    unfold splice
    rw [show ([v0, v1, v2] ++ zs).take 3 = [v0, v1, v2] from rfl, List.drop_eq_nil_of_le (by simp; omega), List.append_nil]
  have ec : (Value.agg bs.toArray).cells = bs.toArray := rfl
  rw [fill_cons p0 (by rw [h0]; rfl) (by simp), h0, List.toList_toArray, e0, fill_cons p1 (by rw [h1]; rfl) (by simp), h1, List.toList_toArray, e1, fill_cons p2 (by rw [h2]; rfl) (by simp), h2, List.toList_toArray, e2, fill_cons p3 (by rw [ec]; simpa using hl) (by simp; omega), ec, List.toList_toArray, List.toList_toArray, e3]
  rfl
theorem edgeD_build (e : EdM) {S : Nat → Prop} {H : Heap} {K : Value → Prop} (k : K (.agg (edDL e).toArray)) :
    VDet Tryd.prog (Instr.build 143 [(0, .int .i64 e.fr), (1, .int .i64 e.to), (2, .bool e.sil), (3, .agg (bitsL e.set).toArray)].toArray) S H K :=
  vbuildS Tryd.underlying143 rfl edDZ edgeD_z (edDL e) (fill4 (zs := List.replicate 256 (Value.bool false)) (by rw [show (bitsL e.set).length = 256 from bitsTo_len _ _, List.length_replicate]) (by kernel_rfl) (by kernel_rfl) (by kernel_rfl) (by rw [List.length_replicate]; kernel_rfl) rfl rfl rfl) k
/-- Boxing an automaton, and reading it. -/
theorem nf_box {S : Nat → Prop} {H : Heap} {v : Value} {a : NfM} {K : Value → Heap → Prop} {t : TypeId} (h : NfV S H v a)
    (k : ∀ ea ec, v = .agg (nfL a (.slice ea a.edges.length ec)).toArray → SlD tEd S H ea ec a.edges → New H (fun b H' => K (.pointer (some ⟨b, 0, none⟩)) H') t (nfL a (.slice ea a.edges.length ec))) : VEff Tryd.prog (Instr.box t v) H K := by
  obtain ⟨hr, hl, ea, ec, rfl, h1⟩ := h
  exact vbox (nfL a (.slice ea a.edges.length ec)) rfl (k ea ec rfl h1)
theorem nd_box {S : Nat → Prop} {H : Heap} {v : Value} {a : NfM} {K : Value → Heap → Prop} {t : TypeId} (h : NdV S H v a)
    (k : ∀ ea ec, v = .agg (nfL a (.slice ea a.edges.length ec)).toArray → SlD tEdD S H ea ec a.edges → New H (fun b H' => K (.pointer (some ⟨b, 0, none⟩)) H') t (nfL a (.slice ea a.edges.length ec))) : VEff Tryd.prog (Instr.box t v) H K := by
  obtain ⟨hr, hl, ea, ec, rfl, h1⟩ := h
  exact vbox (nfL a (.slice ea a.edges.length ec)) rfl (k ea ec rfl h1)
theorem nf_load {S S0 : Nat → Prop} {H : Heap} {a : NfM} {pb : Nat} {ea : Option Addr} {ec : Nat} {K : Value → Prop} {t : TypeId} (hr : a.Rng) (hl : a.edges.length ≤ 1048576) (hb : Blk H pb t (nfL a (.slice ea a.edges.length ec))) (hag : AggT Tryd.prog t 4) (hS : S0 pb) (h1 : SlD tEd S H ea ec a.edges)
    (k : ∀ v, NfV S H v a → K v) : VDet Tryd.prog (Instr.loadAt t (.pointer (some ⟨pb, 0, none⟩))) S0 H K :=
  ldN (cs := nfL a (.slice ea a.edges.length ec)) hag (hb.cells fun j v hv => by rw [Nat.zero_add]; exact hv) hS (k _ ⟨hr, hl, ea, ec, rfl, h1⟩)
theorem nd_load {S S0 : Nat → Prop} {H : Heap} {a : NfM} {pb : Nat} {ea : Option Addr} {ec : Nat} {K : Value → Prop} {t : TypeId} (hr : a.Rng) (hl : a.edges.length ≤ 1048576) (hb : Blk H pb t (nfL a (.slice ea a.edges.length ec))) (hag : AggT Tryd.prog t 4) (hS : S0 pb) (h1 : SlD tEdD S H ea ec a.edges)
    (k : ∀ v, NdV S H v a → K v) : VDet Tryd.prog (Instr.loadAt t (.pointer (some ⟨pb, 0, none⟩))) S0 H K :=
  ldN (cs := nfL a (.slice ea a.edges.length ec)) hag (hb.cells fun j v hv => by rw [Nat.zero_add]; exact hv) hS (k _ ⟨hr, hl, ea, ec, rfl, h1⟩)
/-! ### has -/
theorem has_p {S : Nat → Prop} {H : Heap} {v : Value} {a : NfM} {q : Int} (h : NfV S H v a) : Pure Tryd.prog 83 #[v, .int .i64 q] H (.bool (a.has q)) := by
  refine FnOk.of_vc Tryd.func83 rfl (Tryd.call83 _) ?_
  (conv => whnf); refine nf_box h fun ea ec he h1 => ?_
  subst he
  intro p H1 hp hs1 hb1 ha1
  have st1 := (St.nil H).box hp hs1 hb1 ha1
  by_cases h0 : 0 ≤ q
  · have d0 : decide (0 ≤ q) = true := decide_eq_true h0
    (conv => whnf); rw [d0]
    (conv => whnf); refine fa fl58_0 ?_
    (conv => whnf); refine ld1 (v := .int .i64 a.st) ct3 (by rw [hb1.cell]; rfl) trivial ?_
    by_cases h2 : q < a.st
    · have d1 : decide (q < a.st) = true := decide_eq_true h2
      (conv => whnf); rw [d1]
      (conv => whnf); refine fa fl58_0 ?_
      (conv => whnf); refine ld1 (v := .int .i64 a.st) ct3 (by rw [hb1.cell]; rfl) trivial ?_
      (conv => whnf)
      exact ⟨by unfold NfM.has; rw [d0, d1]; rfl, st1.old⟩
    · have d1 : decide (q < a.st) = false := decide_eq_false h2
      (conv => whnf); rw [d1]
      (conv => whnf)
      exact ⟨by unfold NfM.has; rw [d0, d1]; rfl, st1.old⟩
  · have d0 : decide (0 ≤ q) = false := decide_eq_false h0
    (conv => whnf); rw [d0]
    (conv => whnf)
    exact ⟨by unfold NfM.has; rw [d0]; rfl, st1.old⟩
end Go.Proofs.YthomdogheamfpaaDoor
/- Regions whose order is open, with operations under conditions. -/
set_option linter.unusedVariables false
set_option linter.unusedSimpArgs false
namespace Go.VC
/-- An operation's condition: what is asked where it is wanted, and where it isn't. -/
def whenK (all : List Oper) (o : Oper) (fr : Fr) (yes no : Fr → Prop) : Prop :=
  match o.guard with
  | none => yes fr
  | some (j, want) => match (all[j]?).bind (·.dst) with
    | none => False
    | some t => rdK fr t fun v => match v with
      | .bool b => VIte b
        (wrK fr t (.bool true) fun fr1 => match want with
          | true => yes fr1
          | false => no fr1)
        (wrK fr t (.bool false) fun fr1 => match want with
          | false => yes fr1
          | true => no fr1)
      | .tuple _ => no fr
      | _ => False
theorem whenK_sound {all : List Oper} {o : Oper} {fr : Fr} {a : Act} {yes no : Fr → Prop} (hat : At fr a) (h : whenK all o fr yes no) :
    (Region.wanted o (yielded all.toArray a.tmps) = true ∧ yes fr) ∨ (Region.wanted o (yielded all.toArray a.tmps) = false ∧ no fr) := by
  unfold whenK at h
  split at h
  · rename_i hg
    exact .inl ⟨by simp [Region.wanted, hg], h⟩
  · rename_i j want hg
    split at h
    · exact h.elim
    · rename_i t ht
      rw [rdK_eq] at h
      split at h
      · rename_i b hb
        have hy := yielded_at hat ht hb
        have hs : fr.set t (.bool b) = fr := rd_set_self hb (by simp [undef])
        cases b <;> cases want <;> simp only [VIte, wrK_eq, hs] at h
        · exact .inl ⟨by simp [Region.wanted, hg, hy], h⟩
        · exact .inr ⟨by simp [Region.wanted, hg, hy], h⟩
        · exact .inr ⟨by simp [Region.wanted, hg, hy], h⟩
        · exact .inl ⟨by simp [Region.wanted, hg, hy], h⟩
      · rename_i vs hb
        exact .inr ⟨by simp [Region.wanted, hg, yielded_no hat ht hb], h⟩
      · exact h.elim
def skipG (o : Oper) (H : Heap) (K : Fr → Heap → Prop) (fr : Fr) : Prop := putK o.dst fr undef fun fr' => apK K fr' H
def quietG (P : Program) (S : Nat → Prop) (o : Oper) (H : Heap) (K : Fr → Heap → Prop) (fr : Fr) : Prop :=
  match isDet o && convDet P o with
  | true => detK P S o fr H fun v => putK o.dst fr v fun fr' => apK K fr' H
  | false => False
def doG (P : Program) (S : Nat → Prop) (z : Bool) (H0 : Heap) (o : Oper) (H : Heap) (K : Fr → Heap → Prop) (fr : Fr) : Prop :=
  match z with
  | true => opK P false (fun _ => True) o fr H fun v H' => putK o.dst fr v fun fr' => apK K fr' H'
  | false => opK P false (fun _ => True) o fr H fun v H' => Agr S H0 H' ∧ putK o.dst fr v fun fr' => apK K fr' H'
def stepG (P : Program) (S : Nat → Prop) (Z : List Nat) (H0 : Heap) (all : List Oper) (i : Nat) (fr : Fr) (H : Heap) (next : Fr → Heap → Prop) : Prop :=
  match all[i]? with
  | none => False
  | some o => whenK all o fr (doG P S (Z.contains i) H0 o H next) (skipG o H next)
def heldG (P : Program) (S : Nat → Prop) (Z : List Nat) (H0 : Heap) (all : List Oper) (s : Sch) : Fr → Heap → (Fr → Heap → Prop) → Prop :=
  Sch.rec (motive := fun _ => Fr → Heap → (Fr → Heap → Prop) → Prop) (fun fr H K => K fr H)
    (fun i _ ih fr H K => match all[i]? with
      | none => False
      | some o => whenK all o fr (quietG P S o H fun fr' H' => ih fr' H' K) (skipG o H fun fr' H' => ih fr' H' K))
    (fun i _ ih fr H K => stepG P S Z H0 all i fr H fun fr' H' => ih fr' H' K)
    (fun i _ j _ ih ih' fr H K => (stepG P S Z H0 all i fr H fun fr' H' => ih fr' H' K) ∧ stepG P S Z H0 all j fr H fun fr' H' => ih' fr' H' K) s
theorem heldG_q (P : Program) (S : Nat → Prop) (Z : List Nat) (H0 : Heap) (all : List Oper) (i : Nat) (s : Sch) (fr : Fr) (H : Heap) (K : Fr → Heap → Prop) : heldG P S Z H0 all (.q i s) fr H K =
    (match all[i]? with
      | none => False
      | some o => whenK all o fr (quietG P S o H fun fr' H' => heldG P S Z H0 all s fr' H' K) (skipG o H fun fr' H' => heldG P S Z H0 all s fr' H' K)) := rfl
theorem stepG_sound {P : Program} {S : Nat → Prop} {Z : List Nat} {w0 : World} {all : List Oper} {Q : Exit → Act → World → Prop} {i : Nat} {fr : Fr} {a : Act} {w : World} {next : Fr → Heap → Prop} {N : Act → World → Prop}
    (hat : At fr a) (hc : Env w0 w) (hcl : Z.contains i = false → Cls w0 S w) (h : stepG P S Z w0.heap all i fr w.heap next)
    (hn : ∀ fr' a' w', At fr' a' → Env w0 w' → (Z.contains i = false → Cls w0 S w') → next fr' w'.heap → N a' w') : wpOp P all.toArray Q i N a w := by
  unfold stepG at h
  split at h
  · exact h.elim
  · rename_i o ho
    have ho' : all.toArray[i]? = some o := by simpa using ho
    rcases whenK_sound hat h with ⟨hwant, h⟩ | ⟨hwant, h⟩
    · unfold wpOp
      rw [ho']
      dsimp only
      rw [if_pos hwant]
      unfold doG at h
      split at h
      · rename_i hz
        refine .inl (Oper.wp_mono ?_ (opK_sound hat h _))
        rintro a' w' ⟨v, rfl, henv, hk⟩
        rw [putK_eq] at hk
        exact hn _ _ _ (hat.put o.dst v) (hc.trans henv) (fun hne => by rw [hz] at hne; cases hne) hk
      · refine .inl (Oper.wp_mono ?_ (opK_sound hat h _))
        rintro a' w' ⟨v, rfl, henv, hagr, hk⟩
        rw [putK_eq] at hk
        exact hn _ _ _ (hat.put o.dst v) (hc.trans henv) (fun _ => ⟨hc.trans henv, hagr⟩) hk
    · unfold wpOp
      rw [ho']
      dsimp only
      rw [if_neg (by rw [hwant]; exact Bool.false_ne_true)]
      unfold skipG at h
      rw [putK_eq] at h
      exact hn _ _ _ (hat.put o.dst undef) hc hcl h
theorem heldG_sound {P : Program} {S : Nat → Prop} {Z : List Nat} {w0 : World} {all : List Oper} {Q : Exit → Act → World → Prop} (hs : Region.noSelect all.toArray = true)
    (hp : ∀ c a w, ¬ Q (.panic c) a w) : ∀ (l : Sch) (listed : Array Bool) (fr : Fr) (a : Act) (w : World) (K : Fr → Heap → Prop), At fr a → Env w0 w → (zAll Z l = false → Cls w0 S w) → Shut all.toArray listed →
    (∀ fr' a' w', At fr' a' → Env w0 w' → K fr' w'.heap → Q .normal a' w') → heldBZ all.toArray Z l listed = true → l.even = true →
    heldG P S Z w0.heap all l fr w.heap K → wpAnyZ P all.toArray Q (Cls w0 S) Z l.len listed a w
  | .e, listed, fr, a, w, K, hat, he, _, _, hq, hB, _, h => ⟨by simpa [heldBZ] using hB, hq fr a w hat he h⟩
  | .q i s, listed, fr, a, w, K, hat, he, hc, hsh, hq, hB, hev, h => by
    have hc := hc rfl
    simp only [heldBZ, Bool.and_eq_true, Bool.not_eq_true', List.all_eq_true] at hB
    obtain ⟨⟨⟨⟨b1, b2⟩, b3⟩, b4⟩, hB2⟩ := hB
    rw [heldG_q] at h
    split at h
    · exact h.elim
    · rename_i o ho
      have ho' : all.toArray[i]? = some o := by simpa using ho
      have hri : i ∈ Region.ready .any all.toArray listed := by simpa using b1
      rcases whenK_sound hat h with ⟨hwant, h⟩ | ⟨hwant, h⟩
      · unfold quietG at h
        split at h
        · obtain ⟨v, hv, hk⟩ := detK_sound h
          rw [putK_eq] at hk
          refine wpAnyZ_first (v := v) (f := all.toArray.size) ho' (Region.noSelect_spec hs) (fun c a' w' hh => (hp _ _ _ hh).elim) b3 (fun j hj => b4 j (by simpa using hj)) s.len listed a w hsh (Region.free_spec ho' b2) hri
            (.inl ⟨hwant, fun w' hw' => ?_⟩) hc ?_
          · rw [hat.evalF]
            exact hv w' fun k hk => (hw'.2 k hk).trans (hc.2 k hk).symm
          · exact heldG_sound hs hp s _ _ _ w K (hat.put o.dst v) he (fun _ => hc) (hsh.put hri) hq hB2 hev hk
        · exact h.elim
      · unfold skipG at h
        rw [putK_eq] at h
        exact wpAnyZ_first (v := undef) (f := all.toArray.size) ho' (Region.noSelect_spec hs) (fun c a' w' hh => (hp _ _ _ hh).elim) b3 (fun j hj => b4 j (by simpa using hj)) s.len listed a w hsh (Region.free_spec ho' b2) hri
          (.inr ⟨hwant, rfl⟩) hc (heldG_sound hs hp s _ _ _ w K (hat.put o.dst undef) he (fun _ => hc) (hsh.put hri) hq hB2 hev h)
  | .f i s, listed, fr, a, w, K, hat, he, hc, hsh, hq, hB, hev, h => by
    simp only [heldBZ, Bool.and_eq_true, Bool.or_eq_true, Bool.not_eq_true', beq_iff_eq] at hB
    obtain ⟨⟨b1, b2⟩, hB2⟩ := hB
    refine ⟨(fun h0 => by rw [b1] at h0; cases h0), fun j hj => ?_⟩
    have hj0 := hj
    rw [b1] at hj
    obtain rfl : j = i := by simpa using hj
    refine stepG_sound hat he (fun hz => hc (by simp only [zAll, hz, Bool.false_and])) h fun fr' a' w' h1 h2 h3 h4 => ⟨h3, heldG_sound hs hp s _ _ _ w' K h1 h2 (fun hz => ?_) (hsh.put hj0) hq hB2 hev h4⟩
    rcases b2 with b2 | b2
    · exact h3 b2
    · rw [b2] at hz; cases hz
  | .b i s j s', listed, fr, a, w, K, hat, he, hc, hsh, hq, hB, hev, h => by
    simp only [heldBZ, Bool.and_eq_true, Bool.or_eq_true, Bool.not_eq_true', beq_iff_eq] at hB
    obtain ⟨⟨⟨b1, b2⟩, hB2⟩, hB3⟩ := hB
    simp only [Sch.even, Bool.and_eq_true, beq_iff_eq] at hev
    obtain ⟨⟨e1, e2⟩, e3⟩ := hev
    refine ⟨(fun h0 => by rw [b1] at h0; cases h0), fun k hk => ?_⟩
    have hk0 := hk
    rw [b1] at hk
    rcases List.mem_cons.1 hk with rfl | hk
    · refine stepG_sound hat he (fun hz => hc (by simp only [zAll, hz, Bool.false_and])) h.1 fun fr' a' w' h1 h2 h3 h4 => ⟨h3, heldG_sound hs hp s _ _ _ w' K h1 h2 (fun hz => ?_) (hsh.put hk0) hq hB2 e1 h4⟩
      rcases b2 with b2 | b2
      · exact h3 b2.1
      · rw [b2.1] at hz; cases hz
    · obtain rfl : k = j := by simpa using hk
      rw [e3]
      refine stepG_sound hat he (fun hz => hc (by simp only [zAll, hz, Bool.and_false, Bool.false_and])) h.2 fun fr' a' w' h1 h2 h3 h4 => ⟨h3, heldG_sound hs hp s' _ _ _ w' K h1 h2 (fun hz => ?_) (hsh.put hk0) hq hB3 e2 h4⟩
      rcases b2 with b2 | b2
      · exact h3 b2.2
      · rw [b2.2] at hz; cases hz
theorem VDraw.heldG {P : Program} {l : List Oper} {fr : Fr} {H : Heap} {K : Fr → Heap → Prop} (S : Nat → Prop) (Z : List Nat) (sched : Sch) (hm : P.follows .mixedOrders = true)
    (hB : (Region.noSelect l.toArray && (sched.len == l.length) && sched.even && heldBZ l.toArray Z sched (Array.replicate l.length false)) = true)
    (h : VC.heldG P S Z H l sched fr H K) : VDraw P l fr H K := by
  refine ⟨?_⟩
  intro id Q a w hat hw hp hq
  subst hw
  simp only [Bool.and_eq_true, beq_iff_eq] at hB
  refine wp_region_any hm (wpAny_of_Z (S := Cls w S) (Z := Z) _ _ _ _ ?_)
  have hsh : Shut l.toArray (Array.replicate l.length false) := fun j o _ hj => by
    rw [Array.getD_eq_getD_getElem?, Array.getElem?_replicate] at hj
    split at hj <;> simp at hj
  have := heldG_sound (P := P) (S := S) (Z := Z) (w0 := w) (Q := Q) hB.1.1.1 hp sched (Array.replicate l.length false) fr a { w with drawn := w.drawn + 1 } K hat ⟨rfl, rfl, rfl⟩ (fun _ => ⟨⟨rfl, rfl, rfl⟩, Agr.refl _ _⟩) hsh hq hB.2 hB.1.2 h
  rw [hB.1.1.2] at this
  simpa using this
end Go.VC
/- The library's slices.Sort at []int, by the kit's shelf (laid by its tool); as an operation on own slices. -/
set_option linter.unusedVariables false
set_option linter.unusedSimpArgs false
set_option maxRecDepth 100000
namespace Go.VC
open Go.Sort
/-- A function that sorts ints. -/
structure SortsI (P : Program) (f : FuncId) : Prop where
  call : ∀ (args : Array Value) (w : World), (callFunc f args).run P w = .ok (.enter f args) w
  some_ : ∀ (blk off cap : Nat) (zs : List Int) (w : World), Holds (Value.int .i64) w blk off zs.toArray → blk < w.heap.size → zs.length < 4611686018427387904 →
    Calls P f #[.slice (some ⟨blk, off, none⟩) zs.length cap] w fun e w' => e = .returned (.tuple #[]) ∧ ∃ n os, w' = grow (putRow (Value.int .i64) (Sort.ahead w n) blk off (zs.mergeSort fun x y => decide (x ≤ y)).toArray) os
  none_ : ∀ (p : Option Addr) (cap : Nat) (w : World), Calls P f #[.slice p 0 cap] w fun e w' => e = .returned (.tuple #[]) ∧ w' = w
theorem reps_ints {S : Nat → Prop} {H : Heap} : ∀ {xs : List Int} {cs : List Value}, (tInt .i64).reps S H cs xs → cs = xs.map (Value.int .i64) ∧ ∀ x ∈ xs, inK .i64 x
  | [], _, h => by cases h; exact ⟨rfl, fun x hx => by cases hx⟩
  | x :: xs, _, h => by
    obtain ⟨c, r, rfl, ⟨rfl, h1⟩, h2⟩ := h
    obtain ⟨rfl, h3⟩ := reps_ints h2
    refine ⟨rfl, fun y hy => ?_⟩
    rcases List.mem_cons.1 hy with rfl | hy
    · exact h1
    · exact h3 y hy
theorem ints_reps {S : Nat → Prop} {H : Heap} : ∀ {xs : List Int}, (∀ x ∈ xs, inK .i64 x) → (tInt .i64).reps S H (xs.map (Value.int .i64)) xs
  | [], _ => rfl
  | x :: xs, h => ⟨[.int .i64 x], xs.map (Value.int .i64), rfl, ⟨rfl, h x (by simp)⟩, ints_reps fun y hy => h y (by simp [hy])⟩
theorem sortI {P : Program} {f : FuncId} {B : Nat → Prop} {H0 H : Heap} {ps : List Pc} {e : TypeId} {a : Option Addr} {n cap : Nat} {xs : List Int} {K : Value → Heap → Prop} (hf : SortsI P f) (st : StB B H0 H ps) (i : Nat) (hp : ps[i]? = some (pS (tInt .i64) e a n cap xs)) (hlen : xs.length < 4611686018427387904)
    (k : ∀ H', StB B H0 H' (ps.set i (pS (tInt .i64) e a n cap (xs.mergeSort fun x y => decide (x ≤ y)))) → K (.tuple #[]) H') : VCall P f #[.slice a n cap] H K := by
  obtain ⟨hown, -⟩ := st.at_ i hp
  obtain ⟨cs, ⟨hcl, hcase⟩, hreps⟩ := hown
  obtain ⟨rfl, hrng⟩ := reps_ints hreps
  refine ⟨fun w hw => ⟨hf.call _ w, ?_⟩⟩
  subst hw
  rcases hcase with ⟨he, hn0⟩ | ⟨b, c, l, he, -, hb, hnc, hcm, hll, htk⟩
  · injection he with e1 e2 e3
    subst e1; subst e2; subst e3
    obtain rfl := List.eq_nil_of_length_eq_zero hn0
    refine (hf.none_ none 0 w).mono ?_
    rintro _ _ ⟨rfl, rfl⟩
    exact ⟨_, rfl, Env.refl _, k _ (by rw [show ([] : List Int).mergeSort (fun x y => decide (x ≤ y)) = [] by simp]; exact st.say i hp _ (st.at_ i hp) (fun k hk => hk))⟩
  · injection he with e1 e2 e3
    subst e1; subst e2; subst e3
    rw [show xs.length * (tInt .i64).size = xs.length from Nat.mul_one _] at htk
    rw [show cap * (tInt .i64).size = cap from Nat.mul_one _] at hll
    have hbl := (Array.getElem?_eq_some_iff.1 hb).1
    have hsl : (xs.mergeSort fun x y => decide (x ≤ y)).length = xs.length := List.length_mergeSort _
    have hH : Holds (Value.int .i64) w b 0 xs.toArray := holds_of_blockI (e := e) (cur := l.toArray) hb (by simpa using htk)
    refine (hf.some_ b 0 cap xs w hH hbl hlen).mono ?_
    rintro _ w' ⟨rfl, n, os, rfl⟩
    have hbw := heap_sortedI (n := n) (os := os) (xs.mergeSort fun x y => decide (x ≤ y)).toArray hb
    obtain ⟨-, -, -, hsz, hoth⟩ := grownBy_sortedI (w := w) (g := b) (n := n) (os := os) (xs.mergeSort fun x y => decide (x ≤ y)).toArray
    refine ⟨_, rfl, ⟨rfl, rfl, rfl⟩, k _ (st.upd i hp (fun j hj => hoth j hj.1 fun e => ?_) _ ⟨⟨_, ⟨?_, .inr ⟨b, cap, (putCells (Value.int .i64) 0 (xs.mergeSort fun x y => decide (x ≤ y)).toArray l.toArray).toList, ?_, Nat.zero_le _, ?_, by omega, hcm, ?_, ?_⟩⟩, ints_reps fun x hx => hrng x (List.mem_mergeSort.1 hx)⟩, fun k hk => hk.elim⟩ (fun k hk => .inl hk) (fun k hk => ?_) hsz)⟩
    · cases e
      exact hj.2 (.inl ⟨0, _, _, rfl⟩)
    · rw [List.length_map]; exact (Nat.mul_one _).symm
    · rw [hsl]
    · show _ = _
      rw [hbw]
    · rw [Array.length_toList]
      unfold putCells
      rw [Array.size_mapIdx]
      simp only [List.size_toArray, hll]
      exact (Nat.mul_one _).symm
    · rw [show (xs.mergeSort fun x y => decide (x ≤ y)).length * (tInt .i64).size = (xs.mergeSort fun x y => decide (x ≤ y)).length from Nat.mul_one _]
      exact take_putCellsI l.toArray _ (by rw [hsl]; simpa [hll] using hnc)
    · have h1 := (st.in_ i hp hk).2
      exact Nat.lt_of_lt_of_le h1 hsz
end Go.VC
namespace Go.Proofs.YthomdogheamfpaaDoor
open Go.VC
def sort_ren : Go.Shelf.Ren := ⟨fun | 189 => 106 | 125 => 125 | 257 => 124 | 128 => 142 | 129 => 143 | 294 => 134 | 295 => 135 | 296 => 136 | 297 => 137 | 298 => 138 | 299 => 139 | 216 => 114 | 300 => 140 | 301 => 141 | 328 => 149 | 329 => 150 | 330 => 151 | 331 => 152 | 332 => 153 | 215 => 127 | 343 => 156 | n => n, fun | 28 => 33 | 3 => 3 | 46 => 188 | 0 => 0 | 51 => 222 | 53 => 69 | 4 => 4 | 183 => 216 | 182 => 215 | 131 => 89 | 5 => 5 | 9 => 9 | 218 => 227 | 222 => 231 | 228 => 233 | 229 => 234 | n => n, fun | n => n⟩
theorem lays189 : Go.Proofs.Lays.n189 Tryd.prog sort_ren := {
  mixed := by kernel_rfl
  f125 := Tryd.func125.trans (congrArg some (by kernel_rfl))
  f128 := Tryd.func142.trans (congrArg some (by kernel_rfl))
  f129 := Tryd.func143.trans (congrArg some (by kernel_rfl))
  f189 := Tryd.func106.trans (congrArg some (by kernel_rfl))
  f215 := Tryd.func127.trans (congrArg some (by kernel_rfl))
  f216 := Tryd.func114.trans (congrArg some (by kernel_rfl))
  f257 := Tryd.func124.trans (congrArg some (by kernel_rfl))
  f294 := Tryd.func134.trans (congrArg some (by kernel_rfl))
  f295 := Tryd.func135.trans (congrArg some (by kernel_rfl))
  f296 := Tryd.func136.trans (congrArg some (by kernel_rfl))
  f297 := Tryd.func137.trans (congrArg some (by kernel_rfl))
  f298 := Tryd.func138.trans (congrArg some (by kernel_rfl))
  f299 := Tryd.func139.trans (congrArg some (by kernel_rfl))
  f300 := Tryd.func140.trans (congrArg some (by kernel_rfl))
  f301 := Tryd.func141.trans (congrArg some (by kernel_rfl))
  f328 := Tryd.func149.trans (congrArg some (by kernel_rfl))
  f329 := Tryd.func150.trans (congrArg some (by kernel_rfl))
  f330 := Tryd.func151.trans (congrArg some (by kernel_rfl))
  f331 := Tryd.func152.trans (congrArg some (by kernel_rfl))
  f332 := Tryd.func153.trans (congrArg some (by kernel_rfl))
  f343 := Tryd.func156.trans (congrArg some (by kernel_rfl))
  t0 := Tryd.underlying0
  a0 := Tryd.isAgg0
  z0 := Tryd.sizeOf0
  v0 := Tryd.zeroValue0
  t3 := Tryd.underlying3
  a3 := Tryd.isAgg3
  z3 := Tryd.sizeOf3
  v3 := Tryd.zeroValue3
  t4 := Tryd.underlying4
  a4 := Tryd.isAgg4
  z4 := Tryd.sizeOf4
  v4 := Tryd.zeroValue4
  t5 := Tryd.underlying5
  a5 := Tryd.isAgg5
  z5 := Tryd.sizeOf5
  v5 := Tryd.zeroValue5
  t9 := Tryd.underlying9
  a9 := Tryd.isAgg9
  z9 := Tryd.sizeOf9
  v9 := Tryd.zeroValue9
  t28 := Tryd.underlying33
  a28 := Tryd.isAgg33
  z28 := Tryd.sizeOf33
  v28 := Tryd.zeroValue33
  t46 := Tryd.underlying188
  a46 := Tryd.isAgg188
  z46 := Tryd.sizeOf188
  v46 := Tryd.zeroValue188
  t51 := Tryd.underlying222
  a51 := Tryd.isAgg222
  z51 := Tryd.sizeOf222
  v51 := Tryd.zeroValue222
  t53 := Tryd.underlying69
  a53 := Tryd.isAgg69
  z53 := Tryd.sizeOf69
  v53 := Tryd.zeroValue69
  t131 := Tryd.underlying89
  a131 := Tryd.isAgg89
  z131 := Tryd.sizeOf89
  v131 := Tryd.zeroValue89
  t182 := Tryd.underlying215
  a182 := Tryd.isAgg215
  z182 := Tryd.sizeOf215
  v182 := Tryd.zeroValue215
  t183 := Tryd.underlying216
  a183 := Tryd.isAgg216
  z183 := Tryd.sizeOf216
  v183 := Tryd.zeroValue216
  t218 := Tryd.underlying227
  a218 := Tryd.isAgg227
  z218 := Tryd.sizeOf227
  v218 := Tryd.zeroValue227
  t222 := Tryd.underlying231
  a222 := Tryd.isAgg231
  z222 := Tryd.sizeOf231
  v222 := Tryd.zeroValue231
  t228 := Tryd.underlying233
  a228 := Tryd.isAgg233
  z228 := Tryd.sizeOf233
  v228 := Tryd.zeroValue233
  t229 := Tryd.underlying234
  a229 := Tryd.isAgg234
  z229 := Tryd.sizeOf234
  v229 := Tryd.zeroValue234 }
theorem sorts_ : SortsI Tryd.prog 106 where
  call := Tryd.call106
  some_ := fun blk off cap zs w hH hblk hsz => Any.slices_Sort_int lays189 blk off cap zs w hH hblk hsz
  none_ := fun p cap w => Any.slices_Sort_int_none lays189 p cap w
end Go.Proofs.YthomdogheamfpaaDoor
/- A range over a function: its rounds, and the code around it (the calculus once more, within a fence that holds everything). -/
set_option linter.unusedVariables false
set_option linter.unusedSimpArgs false
namespace Go.VC
/-- The fence that holds everything; ro: the round that the frame is of. -/
def FW (ro : Option Nat) : Fence := { Fence.wide with round := ro }
theorem roomW (ro : Option Nat) (n : Nat) : (FW ro).room n := fun _ h => by cases h
theorem callsW {ro : Option Nat} {n : Nat} {P : Program} {f : FuncId} {args : Array Value} {w : World} {R : Ending → World → Prop} (h : Calls P f args w R) : CallsIn (FW ro) n P f args w R :=
  ⟨trivial, fun cs _ => (callsIn_wide (n := n).2 h).2 cs (room_wide _)⟩
theorem rowsW {ro : Option Nat} {n : Nat} {P : Program} {row : String} {args : Array Value} {w : World} {R : Value → World → Prop} (h : Rows P row args w R) : RowsIn (FW ro) n P row args w R :=
  fun c cs _ => let ⟨v, w', r, s⟩ := h c cs; ⟨v, w', r, stepsIn_wide.2 s⟩
theorem roundW {ro ro' : Option Nat} {n n' : Nat} {P : Program} {l : Nat} {f : FuncId} {tmps : Array Value} {assign body : Code} {w : World} {R : Ending → World → Prop} (h : RoundIn (FW ro) n P l f tmps assign body w R) : RoundIn (FW ro') n' P l f tmps assign body w R :=
  ⟨trivial, fun c cs _ => h.2 c cs (roomW ro _)⟩
/-- The marks that loops over functions have left. -/
def marks (ds : List Nat) : List Deferred := ds.map fun D => { target := .collected D, args := #[] }
structure AtD (ds : List Nat) (fr : Fr) (a : Act) : Prop where
  tmps : a.tmps.toList = fr
  defers : a.defers = marks ds
theorem AtD.bare {ds : List Nat} {fr : Fr} {a : Act} (h : AtD ds fr a) : At fr { tmps := a.tmps, defers := [] } := ⟨h.tmps, rfl⟩
theorem AtD.evalF {ds : List Nat} {fr : Fr} {a : Act} (h : AtD ds fr a) : a.eval = evF fr := by
  rw [← h.bare.evalF]
  funext x
  cases x <;> rfl
theorem AtD.put {ds : List Nat} {fr : Fr} {a : Act} (h : AtD ds fr a) (dst : Option Tmp) (v : Value) : AtD ds (match dst with | none => fr | some d => fr.set d v) (a.put dst v) := by
  obtain ⟨rfl, h2⟩ := h
  cases dst with
  | none => exact ⟨rfl, h2⟩
  | some d => exact ⟨by simp [Act.put], h2⟩
theorem put_same {a : Act} {dst : Option Tmp} {v v' : Value} (h : ({ tmps := a.tmps, defers := [] } : Act).put dst v = ({ tmps := a.tmps, defers := [] } : Act).put dst v') : a.put dst v = a.put dst v' := by
  cases dst with
  | none => rfl
  | some d =>
    have := congrArg Act.tmps h
    simp only [Act.put] at this ⊢
    rw [this]
theorem op_in {ro : Option Nat} {n : Nat} {P : Program} {o : Oper} {a : Act} {w : World} {K : Value → Heap → Prop} (h : OpOk P o { tmps := a.tmps, defers := [] } w K) (hd : ∀ c, o.op ≠ .defer c) (Q : Exit → Act → World → Prop) :
    o.wpIn (FW ro) n P a w (fun a' w' => ∃ v, a' = a.put o.dst v ∧ Env w w' ∧ K v w'.heap) Q := by
  refine ⟨fun _ _ => trivial, ?_⟩
  rw [Oper.semAt_eq _ _ _ hd]
  have h1 := h (fun e _ w => Q e a w)
  unfold Oper.wp at h1
  have ev : ({ tmps := a.tmps, defers := [] } : Act).eval = a.eval := by funext x; cases x <;> rfl
  rw [ev] at h1
  revert h1
  generalize (execOp a.eval o).run P w = r
  intro h1
  cases r with
  | ok nx w' =>
    cases nx with
    | value v =>
      obtain ⟨v', e, h2, h3⟩ := h1
      exact ⟨v', put_same e, h2, h3⟩
    | skip =>
      obtain ⟨v', e, h2, h3⟩ := h1
      exact ⟨v', put_same e, h2, h3⟩
    | defer d =>
      obtain ⟨v', e, h2, h3⟩ := h1
      have := congrArg Act.defers e
      cases hdst : o.dst <;> rw [hdst] at this <;> simp [Act.put] at this
    | enter f args =>
      refine ⟨(fun h => by cases h), callsW (Calls.mono h1 ?_)⟩
      intro e w'' h2
      cases e with
      | returned v =>
        obtain ⟨v', e, h3, h4⟩ := h2
        exact ⟨v', put_same e, h3, h4⟩
      | panicked c => exact h2
      | outgrown => obtain ⟨_, w, h3⟩ := h2; exact ⟨a, w, h3⟩
    | row row args =>
      refine ⟨(fun h => by cases h), rowsW (Rows.mono h1 ?_)⟩
      intro v w'' h2
      obtain ⟨v', e, h3, h4⟩ := h2
      exact ⟨v', put_same e, h3, h4⟩
    | _ => exact h1.elim
  | halt s w' =>
    cases s <;> first | exact h1 | exact h1.elim
theorem oper_mono {F : Fence} {n : Nat} {P : Program} {o : Oper} {a : Act} {w : World} {N N' : Act → World → Prop} {Q : Exit → Act → World → Prop} (hn : ∀ a w, N a w → N' a w) (h : o.wpIn F n P a w N Q) : o.wpIn F n P a w N' Q := by
  refine ⟨h.1, ?_⟩
  have h1 := h.2
  revert h1
  generalize (o.semAt F.round a.eval).run P w = r
  intro h1
  cases r with
  | ok nx w' =>
    cases nx with
    | value v => exact hn _ _ h1
    | skip => exact hn _ _ h1
    | defer d => exact hn _ _ h1
    | enter f args =>
      refine ⟨h1.1, h1.2.1, fun cs hr => ?_⟩
      obtain ⟨e, w'', fr, h2, h3⟩ := h1.2.2 cs hr
      refine ⟨e, w'', fr, ?_, h3⟩
      cases e with
      | returned v => exact hn _ _ h2
      | panicked c => exact h2
      | outgrown => exact h2
    | row row args => exact ⟨h1.1, h1.2.mono fun v w'' h2 => hn _ _ h2⟩
    | round l f tmps assign body =>
      refine ⟨h1.1, h1.2.mono fun e w'' h2 => ?_⟩
      cases e with
      | returned v => exact hn _ _ h2
      | panicked c => exact h2
      | outgrown => exact h2
    | _ => exact h1.elim
  | halt s w' =>
    cases s <;> first | exact h1 | exact h1.elim
/-! ### yield -/
/-- A call of yield. -/
structure VRound (P : Program) (l : Nat) (args : Array Value) (H : Heap) (K : Value → Heap → Prop) : Prop where
  in_ ::
  out_ : ∀ w : World, w.heap = H → ∃ f tmps assign body, (Instr.yield l args).run P w = .ok (.round l f tmps assign body) w ∧ RoundIn (FW none) 0 P l f tmps assign body w fun e w' => ∃ v, e = .returned v ∧ Env w w' ∧ K v w'.heap
/-- One operation; a call of yield is taken in, a deferred call is not. -/
def yK (P : Program) (o : Oper) (fr : Fr) (H : Heap) (K : Value → Heap → Prop) : Prop :=
  match o.op with
  | .call { callee := .value f, args, .. } => evK fr f fun g => match g with
    | .func (.yield l) first cap => evsK fr args.toList fun vs => VRound P l (first.toList ++ vs).toArray H K
    | _ => opK P false (fun _ => True) o fr H K
  | .defer _ => False
  | _ => opK P false (fun _ => True) o fr H K
theorem VRound.out {P : Program} {l : Nat} {args : Array Value} {H : Heap} {K : Value → Heap → Prop} (h : VRound P l args H K) :
    ∀ w : World, w.heap = H → ∃ f tmps assign body, (Instr.yield l args).run P w = .ok (.round l f tmps assign body) w ∧ RoundIn (FW none) 0 P l f tmps assign body w fun e w' => ∃ v, e = .returned v ∧ Env w w' ∧ K v w'.heap := by exact h.out_
theorem yK_sound {ro : Option Nat} {n : Nat} {P : Program} {o : Oper} {ds : List Nat} {fr : Fr} {a : Act} {w : World} {K : Value → Heap → Prop} (hat : AtD ds fr a) (h : yK P o fr w.heap K) (Q : Exit → Act → World → Prop) :
    o.wpIn (FW ro) n P a w (fun a' w' => ∃ v, a' = a.put o.dst v ∧ Env w w' ∧ K v w'.heap) Q := by
  unfold yK at h
  split at h
  · rename_i f args argTypes ho
    rw [evK_eq] at h
    split at h
    · rename_i l first cap hg
      rw [evsK_eq, ← Array.toList_map] at h
      refine ⟨fun _ _ => trivial, ?_⟩
      rw [Oper.semAt_eq _ _ _ (fun c e => by rw [ho] at e; cases e)]
      obtain ⟨fn, tmps, assign, body, hy, hrnd⟩ := h.out w rfl
      have e : (first.toList ++ (Array.map (evF fr) args).toList).toArray = first ++ Array.map (evF fr) args := Array.ext' (by simp)
      have h3 : (execOp a.eval o).run P w = .ok (.round l fn tmps assign body) w := by
        rw [hat.evalF, ← hy, e]
        simp only [execOp, ho, resolve, hg, Deferred.ofValue]
        simp [invoke, callFunc]
      rw [h3]
      refine ⟨(fun h => by cases h), (roundW hrnd).mono ?_⟩
      rintro e w' ⟨v, rfl, henv, hk⟩
      exact ⟨v, rfl, henv, hk⟩
    · exact op_in (opK_sound hat.bare h) (fun c e => by rw [ho] at e; cases e) Q
  · exact h.elim
  · rename_i h1 h2
    exact op_in (opK_sound hat.bare h) (fun c e => h2 c e) Q
/-- An operation under a condition. -/
def guardYK (P : Program) (o : Oper) (want : Bool) (t : Nat) (fr : Fr) (H : Heap) (K : Fr → Heap → Prop) : Prop :=
  rdK fr t fun v => match v with
    | .bool b => VIte b
      (wrK fr t (.bool true) fun fr1 => match want with
        | true => yK P o fr1 H fun v H' => putK o.dst fr1 v fun fr' => apK K fr' H'
        | false => putK o.dst fr1 undef fun fr' => apK K fr' H)
      (wrK fr t (.bool false) fun fr1 => match want with
        | false => yK P o fr1 H fun v H' => putK o.dst fr1 v fun fr' => apK K fr' H'
        | true => putK o.dst fr1 undef fun fr' => apK K fr' H)
    | .tuple _ => putK o.dst fr undef fun fr' => apK K fr' H
    | _ => False
/-- Operations in the text's order. -/
def opsYK (P : Program) (all : List Oper) (l : List Oper) : Fr → Heap → (Fr → Heap → Prop) → Prop :=
  List.rec (motive := fun _ => Fr → Heap → (Fr → Heap → Prop) → Prop) (fun fr H K => K fr H) (fun o _ ih fr H K =>
    match o.guard with
    | none => yK P o fr H fun v H' => putK o.dst fr v fun fr' => ih fr' H' K
    | some (j, want) => match (all[j]?).bind (·.dst) with
      | none => False
      | some t => guardYK P o want t fr H fun fr' H' => ih fr' H' K) l
theorem opsYK_cons (P : Program) (all rest : List Oper) (o : Oper) (fr : Fr) (H : Heap) (K : Fr → Heap → Prop) : opsYK P all (o :: rest) fr H K =
    (match o.guard with
    | none => yK P o fr H fun v H' => putK o.dst fr v fun fr' => opsYK P all rest fr' H' K
    | some (j, want) => match (all[j]?).bind (·.dst) with
      | none => False
      | some t => guardYK P o want t fr H fun fr' H' => opsYK P all rest fr' H' K) := rfl
theorem opsYK_sound {ro : Option Nat} {n : Nat} {P : Program} {ds : List Nat} {all : List Oper} {Q : Exit → Act → World → Prop} : ∀ (l : List Oper) (fr : Fr) (a : Act) (w : World) (K : Fr → Heap → Prop), AtD ds fr a →
    (∀ fr' a' w', AtD ds fr' a' → Env w w' → K fr' w'.heap → Q .normal a' w') → opsYK P all l fr w.heap K → wpListIn (FW ro) n P all.toArray Q l a w
  | [], fr, a, w, K, hat, hq, h => hq fr a w hat (Env.refl w) h
  | o :: l, fr, a, w, K, hat, hq, h => by
    have go : ∀ (want : Bool), (want = true → yK P o fr w.heap fun v H' => putK o.dst fr v fun fr' => opsYK P all l fr' H' K) →
        (want = false → putK o.dst fr undef fun fr' => opsYK P all l fr' w.heap K) →
        Region.wanted o (yielded all.toArray a.tmps) = want → wpListIn (FW ro) n P all.toArray Q (o :: l) a w := by
      intro want h1 h2 hw
      unfold wpListIn
      rw [hw]
      cases want with
      | true =>
        rw [if_pos rfl]
        refine oper_mono ?_ (yK_sound hat (h1 rfl) Q)
        rintro a' w' ⟨v, rfl, henv, hk⟩
        rw [putK_eq] at hk
        exact opsYK_sound l _ _ _ K (hat.put o.dst v) (fun fr' a' w'' h1 h2 h3 => hq fr' a' w'' h1 (henv.trans h2) h3) hk
      | false =>
        rw [if_neg Bool.false_ne_true]
        have h3 := h2 rfl
        rw [putK_eq] at h3
        exact ⟨fun _ _ => trivial, opsYK_sound l _ _ _ K (hat.put o.dst undef) hq h3⟩
    rw [opsYK_cons] at h
    split at h
    · rename_i hg
      exact go true (fun _ => h) (fun h => by cases h) (by simp [Region.wanted, hg])
    · rename_i j want hg
      split at h
      · exact h.elim
      · rename_i t ht
        unfold guardYK at h
        simp only [apK] at h
        rw [rdK_eq] at h
        split at h
        · rename_i b hb
          have hy := yielded_at hat.bare ht hb
          have hs : fr.set t (.bool b) = fr := rd_set_self hb (by simp [undef])
          cases b <;> cases want <;> simp only [VIte, wrK_eq, hs] at h
          · exact go true (fun _ => h) (fun h => by cases h) (by simp [Region.wanted, hg, hy])
          · exact go false (fun h => by cases h) (fun _ => h) (by simp [Region.wanted, hg, hy])
          · exact go false (fun h => by cases h) (fun _ => h) (by simp [Region.wanted, hg, hy])
          · exact go true (fun _ => h) (fun h => by cases h) (by simp [Region.wanted, hg, hy])
        · rename_i vs hb
          exact go false (fun h => by cases h) (fun _ => h) (by simp [Region.wanted, hg, yielded_no hat.bare ht hb])
        · exact h.elim

/-! ### code -/
abbrev KD := Fr → List Nat → Heap → Prop
def LiftD (w0 : World) (Q : Exit → Fr → List Nat → Heap → Prop) : Exit → Act → World → Prop
  | .panic _, _, _ => False
  | .outgrown, _, _ => False
  | e, a, w => ∃ fr ds, AtD ds fr a ∧ Env w0 w ∧ Q e fr ds w.heap
def exitKD (X : List (Nat × KD)) (id : Nat) (fr : Fr) (ds : List Nat) (H : Heap) : Prop :=
  match X with
  | [] => False
  | (j, k) :: X => match Nat.beq j id with
    | true => k fr ds H
    | false => exitKD X id fr ds H
def QxD (kn : KD) (X : List (Nat × KD)) (kr : KD) (e : Exit) (fr : Fr) (ds : List Nat) (H : Heap) : Prop :=
  match e with
  | .normal => kn fr ds H
  | .exit id => exitKD X id fr ds H
  | .ret => kr fr ds H
  | _ => False
structure VLoopD (P : Program) (ro : Option Nat) (c : Code) (fr : Fr) (ds : List Nat) (H : Heap) (X : List (Nat × KD)) (kr : KD) : Prop where
  in_ ::
  out_ : ∀ (n : Nat) (a : Act) (w : World), AtD ds fr a → w.heap = H → (Code.loop c).wpIn (FW ro) n P (LiftD w (QxD (fun _ _ _ => False) X kr)) a w
/-- A range over a function. -/
structure VRF (P : Program) (g : Operand) (ps : Array Tmp) (assign body : Code) (fr : Fr) (ds : List Nat) (H : Heap) (kn : KD) (X : List (Nat × KD)) (kr : KD) : Prop where
  in_ ::
  out_ : ∀ (n : Nat) (a : Act) (w : World), AtD ds fr a → w.heap = H → (Code.rangeFunc g ps assign body).wpIn (FW none) n P (LiftD w (QxD kn X kr)) a w
def vcI (P : Program) (ro : Option Nat) (c : Code) : Fr → List Nat → Heap → KD → List (Nat × KD) → KD → Prop :=
  Code.rec (motive := fun _ => Fr → List Nat → Heap → KD → List (Nat × KD) → KD → Prop)
    (fun fr ds H kn _ _ => kn fr ds H)
    (fun _ ops draw fr ds H kn _ _ => match draw with
      | false => opsYK P ops.toList ops.toList fr H fun fr' H' => kn fr' ds H'
      | true => False)
    (fun _ _ iha ihb fr ds H kn X kr => iha fr ds H (fun fr' ds' H' => ihb fr' ds' H' kn X kr) X kr)
    (fun c _ _ ihx ihy fr ds H kn X kr => match c with
      | .tmp t => rdK fr t fun v => match v with
        | .bool b => VIte b (wrK fr t (.bool true) fun fr1 => ihx fr1 ds H kn X kr) (wrK fr t (.bool false) fun fr1 => ihy fr1 ds H kn X kr)
        | _ => False
      | _ => False)
    (fun id _ ih fr ds H kn X kr => ih fr ds H kn ((id, kn) :: X) kr)
    (fun c _ fr ds H _ X kr => VLoopD P ro c fr ds H X kr)
    (fun g ps a b _ _ fr ds H kn X kr => match ro with
      | none => VRF P g ps a b fr ds H kn X kr
      | some _ => False)
    (fun id fr ds H _ X _ => exitKD X id fr ds H)
    (fun _ _ _ _ _ _ _ _ => False)
    (fun _ _ _ _ _ _ _ => False)
    (fun _ _ _ _ _ _ _ => False)
    (fun fr ds H _ _ kr => kr fr ds H)
    (fun _ _ _ _ _ _ _ => False) c
section
variable (P : Program) (ro : Option Nat) (a b : Code) (fr : Fr) (ds : List Nat) (H : Heap) (kn : KD) (X : List (Nat × KD)) (kr : KD)
theorem vcI_region (id : Nat) (ops : Array Oper) (draw : Bool) : vcI P ro (.region id ops draw) fr ds H kn X kr = (match draw with
      | false => opsYK P ops.toList ops.toList fr H fun fr' H' => kn fr' ds H'
      | true => False) := rfl
theorem vcI_seq : vcI P ro (.seq a b) fr ds H kn X kr = vcI P ro a fr ds H (fun fr' ds' H' => vcI P ro b fr' ds' H' kn X kr) X kr := rfl
theorem vcI_cond (c : Operand) : vcI P ro (.cond c a b) fr ds H kn X kr = (match c with
      | .tmp t => rdK fr t fun v => match v with
        | .bool x => VIte x (wrK fr t (.bool true) fun fr1 => vcI P ro a fr1 ds H kn X kr) (wrK fr t (.bool false) fun fr1 => vcI P ro b fr1 ds H kn X kr)
        | _ => False
      | _ => False) := rfl
theorem vcI_block (id : Nat) : vcI P ro (.block id a) fr ds H kn X kr = vcI P ro a fr ds H kn ((id, kn) :: X) kr := rfl
theorem vcI_range (g : Operand) (ps : Array Tmp) : vcI P ro (.rangeFunc g ps a b) fr ds H kn X kr = (match ro with
      | none => VRF P g ps a b fr ds H kn X kr
      | some _ => False) := rfl
end
theorem VLoopD.out {P : Program} {ro : Option Nat} {c : Code} {fr : Fr} {ds : List Nat} {H : Heap} {X : List (Nat × KD)} {kr : KD} (h : VLoopD P ro c fr ds H X kr) :
    ∀ (n : Nat) (a : Act) (w : World), AtD ds fr a → w.heap = H → (Code.loop c).wpIn (FW ro) n P (LiftD w (QxD (fun _ _ _ => False) X kr)) a w := by exact h.out_
theorem VRF.out {P : Program} {g : Operand} {ps : Array Tmp} {assign body : Code} {fr : Fr} {ds : List Nat} {H : Heap} {kn : KD} {X : List (Nat × KD)} {kr : KD} (h : VRF P g ps assign body fr ds H kn X kr) :
    ∀ (n : Nat) (a : Act) (w : World), AtD ds fr a → w.heap = H → (Code.rangeFunc g ps assign body).wpIn (FW none) n P (LiftD w (QxD kn X kr)) a w := by exact h.out_
theorem LiftD.env {w0 w1 : World} {Q : Exit → Fr → List Nat → Heap → Prop} (henv : Env w0 w1) : ∀ {e : Exit} {a : Act} {w : World}, LiftD w1 Q e a w → LiftD w0 Q e a w
  | .normal, _, _, ⟨fr, ds, h1, h2, h3⟩ | .exit _, _, _, ⟨fr, ds, h1, h2, h3⟩ | .goto _, _, _, ⟨fr, ds, h1, h2, h3⟩ | .ret, _, _, ⟨fr, ds, h1, h2, h3⟩ => ⟨fr, ds, h1, henv.trans h2, h3⟩
theorem LiftD.mono {w0 : World} {Q Q' : Exit → Fr → List Nat → Heap → Prop} (hq : ∀ e fr ds H, Q e fr ds H → Q' e fr ds H) : ∀ {e : Exit} {a : Act} {w : World}, LiftD w0 Q e a w → LiftD w0 Q' e a w
  | .normal, _, _, ⟨fr, ds, h1, h2, h3⟩ | .exit _, _, _, ⟨fr, ds, h1, h2, h3⟩ | .goto _, _, _, ⟨fr, ds, h1, h2, h3⟩ | .ret, _, _, ⟨fr, ds, h1, h2, h3⟩ => ⟨fr, ds, h1, h2, hq _ _ _ _ h3⟩
theorem seq_liftD {P : Program} {ro : Option Nat} {n : Nat} {x y : Code} {kn k1 : KD} {X : List (Nat × KD)} {kr : KD} {a : Act} {w : World}
    (hx : x.wpIn (FW ro) n P (LiftD w (QxD k1 X kr)) a w)
    (hy : ∀ fr ds a' w', AtD ds fr a' → Env w w' → k1 fr ds w'.heap → y.wpIn (FW ro) n P (LiftD w' (QxD kn X kr)) a' w') : (Code.seq x y).wpIn (FW ro) n P (LiftD w (QxD kn X kr)) a w := by
  refine wpIn_seq (Code.wpIn_mono ?_ hx)
  intro e a' w' h
  cases e with
  | normal =>
    obtain ⟨fr, ds, h1, h2, h3⟩ := h
    exact Code.wpIn_mono (fun e a w h => LiftD.env h2 h) (hy fr ds a' w' h1 h2 h3)
  | exit id => exact h
  | goto l => exact h
  | ret => exact h
  | panic c => exact h
  | outgrown => exact h
theorem vcI_sound {P : Program} {ro : Option Nat} {n : Nat} : ∀ (c : Code) (fr : Fr) (ds : List Nat) (kn : KD) (X : List (Nat × KD)) (kr : KD) (a : Act) (w : World), AtD ds fr a →
    vcI P ro c fr ds w.heap kn X kr → c.wpIn (FW ro) n P (LiftD w (QxD kn X kr)) a w
  | .skip, fr, ds, kn, X, kr, a, w, hat, h => wpIn_skip ⟨fr, ds, hat, Env.refl w, h⟩
  | .region id ops draw, fr, ds, kn, X, kr, a, w, hat, h => by
    rw [vcI_region] at h
    cases draw with
    | false =>
      have := wpIn_region_lit (id := id) (opsYK_sound (ro := ro) (n := n) (all := ops.toList) (Q := LiftD w (QxD kn X kr)) ops.toList fr a w _ hat (fun fr' a' w' h1 h2 h3 => ⟨fr', ds, h1, h2, h3⟩) h)
      simpa using this
    | true => exact h.elim
  | .seq x y, fr, ds, kn, X, kr, a, w, hat, h => by
    rw [vcI_seq] at h
    exact seq_liftD (vcI_sound x fr ds _ X kr a w hat h) fun fr' ds' a' w' h1 _ h3 => vcI_sound y fr' ds' kn X kr a' w' h1 h3
  | .cond c x y, fr, ds, kn, X, kr, a, w, hat, h => by
    rw [vcI_cond] at h
    split at h
    · rename_i t
      rw [rdK_eq] at h
      split at h
      · rename_i b hb
        have hs : fr.set t (.bool b) = fr := rd_set_self hb (by simp [undef])
        have he : a.eval (.tmp t) = .bool b := by rw [hat.evalF]; exact hb
        cases b <;> simp only [VIte, wrK_eq, hs] at h
        · exact wpIn_cond_false he (vcI_sound y fr ds kn X kr a w hat h)
        · exact wpIn_cond_true he (vcI_sound x fr ds kn X kr a w hat h)
      · exact h.elim
    · exact h.elim
  | .block id c, fr, ds, kn, X, kr, a, w, hat, h => by
    rw [vcI_block] at h
    refine wpIn_block (Code.wpIn_mono ?_ (vcI_sound c fr ds kn _ kr a w hat h))
    intro e a' w' h
    cases e with
    | exit id' =>
      obtain ⟨fr', ds', h1, h2, h3⟩ := h
      simp only [QxD, exitKD] at h3
      simp only [Exit.inBlock]
      split at h3
      · rename_i hid
        have := Nat.eq_of_beq_eq_true hid
        rw [if_pos this.symm]
        exact ⟨fr', ds', h1, h2, h3⟩
      · rename_i hid
        have : id ≠ id' := Nat.ne_of_beq_eq_false hid
        rw [if_neg (Ne.symm this)]
        exact ⟨fr', ds', h1, h2, h3⟩
    | normal => exact h
    | goto l => exact h
    | ret => exact h
    | panic c => exact h
    | outgrown => exact h
  | .loop c, fr, ds, kn, X, kr, a, w, hat, h => Code.wpIn_mono (fun e a w => LiftD.mono fun e fr ds H hq => by
      cases e <;> first | exact hq | exact hq.elim) (h.out n a w hat rfl)
  | .exit id, fr, ds, kn, X, kr, a, w, hat, h => wpIn_exit ⟨fr, ds, hat, Env.refl w, h⟩
  | .ret, fr, ds, kn, X, kr, a, w, hat, h => wpIn_ret ⟨fr, ds, hat, Env.refl w, h⟩
  | .rangeFunc g ps x y, fr, ds, kn, X, kr, a, w, hat, h => by
    rw [vcI_range] at h
    cases ro with
    | none => exact h.out n a w hat rfl
    | some l => exact h.elim
  | .scope _, _, _, _, _, _, _, _, _, h => h.elim
  | .label _, _, _, _, _, _, _, _, _, h => h.elim
  | .goto _, _, _, _, _, _, _, _, _, h => h.elim
  | .refuse _, _, _, _, _, _, _, _, _, h => h.elim
/-! ### loops -/
theorem wpIn_loop_rel {P : Program} {ro : Option Nat} {n : Nat} {c : Code} {Q : Exit → Act → World → Prop} (J : Nat → Act → World → Prop)
    (round : ∀ m a w, J m a w → c.wpIn (FW ro) n P (Exit.then (fun a' w' => ∃ m', m' < m ∧ J m' a' w') Q) a w) : ∀ m a w, J m a w → (Code.loop c).wpIn (FW ro) n P Q a w := by
  intro m0 a0 w0 h0 b k cs hro hb hr
  have key : ∀ m a w, J m a w → ∃ e a' w', Q e a' w' ∧ ArrivesIn (Machine.fenced P (FW ro)) P (lone (b.atR a (.code c :: .inLoop c :: k)) cs w) b k cs e a' w' := by
    intro m
    induction m using Nat.strongRecOn with
    | _ m ih =>
      intro a w hI
      obtain ⟨e, a₁, w₁, hq, harr⟩ := round m a w hI b (.inLoop c :: k) cs hro hb hr
      cases e with
      | normal =>
        obtain ⟨m', hlt, hI₁⟩ := hq
        obtain ⟨e₂, a₂, w₂, hq₂, harr₂⟩ := ih m' hlt a₁ w₁ hI₁
        exact ⟨e₂, a₂, w₂, hq₂, .of_steps (StepsIn.trans harr (.one (fenced_calm hb hr rfl) stepR_inLoop)) harr₂⟩
      | exit id => exact ⟨_, a₁, w₁, hq, .pass (x := .inLoop c) rfl (fun _ _ => .inl (by simp)) harr⟩
      | goto l => exact ⟨_, a₁, w₁, hq, .pass (x := .inLoop c) rfl (fun _ _ => .inl (by simp)) harr⟩
      | ret => exact ⟨_, a₁, w₁, hq, .pass (x := .inLoop c) rfl (fun _ _ => .inl (by simp)) harr⟩
      | panic ch => exact ⟨_, a₁, w₁, hq, .pass (x := .inLoop c) rfl (fun _ _ => .inl (by simp)) harr⟩
      | outgrown => exact ⟨_, a₁, w₁, hq, .pass (x := .inLoop c) rfl (fun _ _ => .inl (by simp)) harr⟩
  obtain ⟨e, a', w', hq, harr⟩ := key m0 a0 w0 h0
  exact ⟨e, a', w', hq, .of_steps (.one (fenced_calm hb hr rfl) stepR_loop) harr⟩
theorem VLoopD.mk {P : Program} {ro : Option Nat} {c : Code} {fr : Fr} {ds : List Nat} {H : Heap} {X : List (Nat × KD)} {kr : KD} {α : Type} (ts : List Nat) (enc : α → List Value) (I : α → List Nat → Heap → Prop) (m : α → Heap → Nat)
    (h0 : rdsK fr ts fun vs => ∃ x, vs = enc x ∧ I x ds H)
    (hr : ∀ (x : α) (ds1 : List Nat) (H1 : Heap) (junk : Nat → Value), I x ds1 H1 → havocK junk fr (wset c []) fun fr0 => wrsK fr0 ts (enc x) fun fr1 =>
      vcI P ro c fr1 ds1 H1 (fun fr' ds' H' => keptK (wset c []) fr fr' (rdsK fr' ts fun vs => ∃ y, vs = enc y ∧ I y ds' H' ∧ m y H' < m x H1)) X kr) : VLoopD P ro c fr ds H X kr := by
  generalize wset c [] = ws at hr
  refine ⟨?_⟩
  intro n a w hat hw
  subst hw
  have h0' := h0
  rw [rdsK_eq] at h0'
  obtain ⟨x0, hx0, hi0⟩ := h0'
  let J (k : Nat) (a' : Act) (w' : World) : Prop := ∃ fr' ds' x, AtD ds' fr' a' ∧ Env w w' ∧ havoc (fun _ => undef) fr' ws = havoc (fun _ => undef) fr ws ∧ ts.map (rd fr') = enc x ∧ I x ds' w'.heap ∧ m x w'.heap = k
  refine wpIn_loop_rel J ?_ _ a w ⟨fr, ds, x0, hat, Env.refl w, rfl, hx0, hi0, rfl⟩
  rintro k a1 w1 ⟨fr1, ds1, x1, hat1, henv1, hk1, hx1, hi1, rfl⟩
  have h := hr x1 ds1 w1.heap (rd fr1) hi1
  rw [havocK_eq, wrsK_eq, havoc_of_blank hk1, ← hx1, wrs_self ts fr1] at h
  refine Code.wpIn_mono ?_ (vcI_sound c fr1 ds1 _ X kr a1 w1 hat1 h)
  intro e a2 w2 h2
  cases e with
  | normal =>
    obtain ⟨fr2, ds2, hat2, henv2, h2⟩ := h2
    simp only [QxD, keptK, havocK_eq, rdsK_eq] at h2
    obtain ⟨hk2, y, hy, hiy, hm⟩ := h2
    exact ⟨m y w2.heap, hm, fr2, ds2, y, hat2, henv1.trans henv2, hk2, hy, hiy, rfl⟩
  | exit id => exact LiftD.env henv1 h2
  | goto l => exact LiftD.env henv1 h2
  | ret => exact LiftD.env henv1 h2
  | panic c => exact h2
  | outgrown => exact h2
/-! ### functions -/
/-- A function's end: the marks are taken, then the results are read. -/
structure VRet (P : Program) (rs : List ResultVar) (R : Value → Heap → Prop) (fr : Fr) (ds : List Nat) (H : Heap) : Prop where
  in_ ::
  nd : ds.Nodup
  open_ : ∀ D ∈ ds, H[D]? = some (.deferred (some []))
  res : ∀ H', Agr (fun k => k ∉ ds) H H' → H'.size = H.size → resK P rs fr H' R
theorem VRet.nil {P : Program} {rs : List ResultVar} {R : Value → Heap → Prop} {fr : Fr} {H : Heap} (h : resK P rs fr H R) : VRet P rs R fr [] H :=
  ⟨List.Pairwise.nil, (fun _ h => by cases h), fun H' ha _ => by rw [agr_all (ha.mono fun k _ => by simp)]; exact h⟩
theorem envPut (w : World) (r : Nat) (o : Obj) : Env w (w.putObj r o) := ⟨rfl, rfl, rfl⟩
theorem hwide : FW none = Fence.wide := rfl
theorem leaves_marks {P : Program} {fn : Func} {tmps : Array Value} {R : Ending → World → Prop} : ∀ (ds : List Nat) (w : World), ds.Nodup → (∀ D ∈ ds, w.heap[D]? = some (.deferred (some []))) →
    (∀ w', Env w w' → Agr (fun k => k ∉ ds) w.heap w'.heap → w'.heap.size = w.heap.size → ∃ v, (results fn tmps).run P w' = .ok v w' ∧ R (.returned v) w') → LeavesInM (FW none) 0 P fn tmps R (marks ds) .returning w
  | [], w, _, _, h => by
    obtain ⟨v, h1, h2⟩ := h w (Env.refl w) (Agr.refl _ _) rfl
    exact ⟨v, h1, h2⟩
  | D :: ds, w, hn, ho, h => by
    obtain ⟨hn1, hn2⟩ := List.nodup_cons.1 hn
    have hD := ho D (by simp)
    have hlt := (Array.getElem?_eq_some_iff.1 hD).1
    have ha : Agr (fun k => k ≠ D) w.heap (w.putObj D (.deferred none)).heap := fun k hk => World.putObj_heap_other hk
    refine ⟨by simp, .inl ⟨D, w.putObj D (.deferred none), rfl, run_takeDeferred hD, leaves_marks ds _ hn2 (fun E hE => ?_) fun w' h1 h2 h3 => ?_⟩⟩
    · rw [World.putObj_heap_other (by rintro rfl; exact hn1 hE)]; exact ho E (by simp [hE])
    · refine h w' ((envPut w D _).trans h1) ((ha.mono fun k hk => ?_).trans (h2.mono fun k hk => ?_)) (by rw [h3]; simp)
      · intro e; exact hk (by simp [e])
      · intro e; exact hk (by simp [e])
theorem FnOk.of_vcI {P : Program} {f : FuncId} {fn : Func} {c : Code} {args : Array Value} {H : Heap} {R : Value → Heap → Prop} (hf : P.funcs[f]? = some fn) (hb : fn.body = some c)
    (hcall : ∀ w : World, (callFunc f args).run P w = .ok (.enter f args) w)
    (h : normK (args.toList ++ List.replicate (fn.ntmps - args.size) undef) fun fr => vcI P none c fr [] H (VRet P fn.results.toList R) [] (VRet P fn.results.toList R)) :
    FnOk P f args H R := by
  intro w hw
  subst hw
  refine ⟨hcall w, ?_⟩
  refine (callsIn_wide (n := 0)).1 ?_
  rw [← hwide]
  refine callsIn_of_wp_marks (F := FW none) (n := 0) hf hb trivial ?_
  rw [normK_eq] at h
  have hat : AtD [] (args.toList ++ List.replicate (fn.ntmps - args.size) undef) { tmps := args ++ Array.replicate (fn.ntmps - args.size) undef, defers := [] } := ⟨by simp, rfl⟩
  refine Code.wpIn_mono ?_ (vcI_sound c _ _ _ _ _ _ w hat h)
  intro e a' w' h2
  have fin : ∀ fr ds, AtD ds fr a' → Env w w' → VRet P fn.results.toList R fr ds w'.heap → LeavesInM (FW none) 0 P fn a'.tmps (fun e w'' => ∃ v, e = .returned v ∧ Env w w'' ∧ R v w''.heap) a'.defers .returning w' := by
    intro fr ds h1 h2 h3
    rw [h1.defers]
    refine leaves_marks ds w' h3.nd h3.open_ fun w'' h4 h5 h6 => ?_
    obtain ⟨v, hv, hR⟩ := resK_sound h1.bare (h3.res w''.heap h5 h6)
    exact ⟨v, hv, v, rfl, h2.trans h4, hR⟩
  cases e with
  | normal => obtain ⟨fr, ds, h1, h2, h3⟩ := h2; exact fin fr ds h1 h2 h3
  | ret => obtain ⟨fr, ds, h1, h2, h3⟩ := h2; exact fin fr ds h1 h2 h3
  | exit id => obtain ⟨fr, ds, h1, h2, h3⟩ := h2; exact h3.elim
  | goto l => obtain ⟨fr, ds, h1, h2, h3⟩ := h2; exact h3.elim
  | panic c => exact h2.elim
  | outgrown => exact h2.elim
/-! ### the statement, and its rounds -/
theorem VRF.mk {P : Program} {g : Operand} {ps : Array Tmp} {assign body : Code} {fr : Fr} {ds : List Nat} {H : Heap} {kn : KD} {X : List (Nat × KD)} {kr : KD} (gf : Nat) (lb : Array Value) (hg : evF fr g = .func (.func gf) #[] lb)
    (h : ∀ (rec : LoopState → Option Code → Loop), (∃ fn, rec = fun st pe => { state := st, pending := pe, fn := fn, tmps := fr.toArray, params := ps, assign := assign, body := body, defers := H.size }) →
      FnOk P gf (#[.func (.yield (H.size + 1)) #[] #[]] ++ lb) ((H.push (.deferred (some []))).push (.loop (rec .ready none))) fun _ H2 => ∃ st pe, st ≠ .busy ∧ H2[H.size + 1]? = some (.loop (rec st pe)) ∧
        ((pe = none ∧ kn fr (H.size :: ds) (H2.setIfInBounds (H.size + 1) (.loop (rec .exhausted pe)))) ∨
          (pe = some .ret ∧ kr fr (H.size :: ds) (H2.setIfInBounds (H.size + 1) (.loop (rec .exhausted pe)))))) : VRF P g ps assign body fr ds H kn X kr := by
  refine ⟨?_⟩
  intro n a w hat hw
  subst hw
  refine wpIn_rangeFunc ?_
  intro fn _
  obtain ⟨rec, hrec⟩ : ∃ rec : LoopState → Option Code → Loop, rec = fun st pe => { state := st, pending := pe, fn, tmps := fr.toArray, params := ps, assign, body, defers := w.heap.size } := ⟨_, rfl⟩
  have hk := h rec ⟨fn, hrec⟩
  have hta : a.tmps = fr.toArray := by rw [← hat.tmps]
  obtain ⟨W1, hW1⟩ : ∃ W1, (w.alloc (.deferred (some []))).alloc (.loop (rec .ready none)) = W1 := ⟨_, rfl⟩
  have hW1h : W1.heap = (w.heap.push (.deferred (some []))).push (.loop (rec .ready none)) := by rw [← hW1]; rfl
  have hW1e : Env w W1 := by rw [← hW1]; exact ⟨rfl, rfl, rfl⟩
  obtain ⟨hc1, hc2⟩ := hk W1 hW1h
  refine ⟨w.heap.size + 1, [{ target := .collected w.heap.size, args := #[] }], W1, { target := .fn (.func gf) lb, args := #[.func (.yield (w.heap.size + 1)) #[] #[]] }, W1, gf,
    #[.func (.yield (w.heap.size + 1)) #[] #[]] ++ lb, W1, ?_, ?_, ?_, ?_, ?_, ?_⟩
  · rw [← hW1, hrec, hta]; exact run_enterLoop_outer _ _ _ _ _
  · have hga : a.eval g = .func (.func gf) #[] lb := by rw [hat.evalF]; exact hg
    simp only [resolve, hga]
    simp [go_sem]
  · exact fun _ _ => trivial
  · have e1 : (invoke (.fn (.func gf) lb) #[.func (.yield (w.heap.size + 1)) #[] #[]]).run P W1 = (callFunc gf (#[.func (.yield (w.heap.size + 1)) #[] #[]] ++ lb)).run P W1 := by simp [invoke]
    exact e1.trans hc1
  · intro h; cases h
  · refine callsW (Calls.mono hc2 ?_)
    rintro e W2 ⟨v, rfl, henv2, st, pe, hst, hl, hpe⟩
    refine ⟨pe, W2.putObj (w.heap.size + 1) (.loop { rec st pe with state := .exhausted }), ?_, ?_⟩
    · have := run_endLoop (P := P) hl (by rw [hrec]; exact hst)
      rw [hrec] at this ⊢
      exact this
    · have hat2 : AtD (w.heap.size :: ds) fr { a with defers := [{ target := .collected w.heap.size, args := #[] }] ++ a.defers } := ⟨hat.tmps, by rw [hat.defers]; rfl⟩
      have he2 : Env w (W2.putObj (w.heap.size + 1) (.loop { rec st pe with state := .exhausted })) := (hW1e.trans henv2).trans (envPut W2 _ _)
      have hrx : ({ rec st pe with state := .exhausted } : Loop) = rec .exhausted pe := by rw [hrec]
      have hhp : (W2.putObj (w.heap.size + 1) (.loop { rec st pe with state := .exhausted })).heap = W2.heap.setIfInBounds (w.heap.size + 1) (.loop (rec .exhausted pe)) := by rw [hrx]; rfl
      rcases hpe with ⟨rfl, hpe⟩ | ⟨rfl, hpe⟩
      · exact ⟨fr, _, hat2, he2, by rw [hhp]; exact hpe⟩
      · exact wpIn_ret ⟨fr, _, hat2, he2, by rw [hhp]; exact hpe⟩
theorem fold_wrs : ∀ (l : List (Tmp × Value)) (t : Array Value), ((l.foldl (fun t (x : Tmp × Value) => t.setIfInBounds x.1 x.2) t)).toList = wrs t.toList (l.map (·.1)) (l.map (·.2))
  | [], t => by cases t; rfl
  | (p, v) :: l, t => by
    rw [List.foldl_cons, fold_wrs l]
    simp [wrs]
/-- One round. -/
theorem VRound.mk {P : Program} {l : Nat} {args : Array Value} {H : Heap} {K : Value → Heap → Prop} (r : Loop) (hr : H[l]? = some (.loop r)) (hst : r.state = .ready) (hs : args.size = r.params.size)
    (h : normK (wrs r.tmps.toList r.params.toList args.toList) fun fr => vcI P (some l) r.assign fr [] H (fun fr1 ds1 H1 => ds1 = [] ∧ H1[l]? = some (.loop r) ∧
      vcI P (some l) r.body fr1 [] (H1.setIfInBounds l (.loop { r with state := .busy })) (fun _ _ H2 => H2[l]? = some (.loop { r with state := .busy }) ∧ K (.bool true) (H2.setIfInBounds l (.loop { r with state := .ready, pending := none }))) []
        (fun _ _ H2 => H2[l]? = some (.loop { r with state := .busy }) ∧ K (.bool false) (H2.setIfInBounds l (.loop { r with state := .done, pending := some .ret })))) [] (fun _ _ _ => False)) : VRound P l args H K := by
  refine ⟨?_⟩
  intro w hw
  subst hw
  rw [normK_eq] at h
  refine ⟨_, _, _, _, run_yield hr hs, ?_⟩
  have hfold : ((r.params.zip args).foldl (fun tmps (t, a) => tmps.setIfInBounds t a) r.tmps).toList = wrs r.tmps.toList r.params.toList args.toList := by
    rw [← Array.foldl_toList]
    have := fold_wrs (r.params.zip args).toList r.tmps
    rw [Array.toList_zip] at this ⊢
    rw [show (fun (tmps : Array Value) (x : Tmp × Value) => tmps.setIfInBounds x.1 x.2) = (fun tmps (x : Tmp × Value) => match x with | (t, a) => tmps.setIfInBounds t a) from rfl] at this
    rw [List.map_fst_zip (by simp [hs]), List.map_snd_zip (by simp [hs])] at this
    exact this
  have hro : FW (some l) = (FW none).inRound l := rfl
  refine roundW (ro := none) (n := 0) (roundIn_of_wpIn (F := FW none) trivial ?_)
  rw [← hro]
  have hat : AtD [] (wrs r.tmps.toList r.params.toList args.toList) { tmps := (r.params.zip args).foldl (fun tmps (t, a) => tmps.setIfInBounds t a) r.tmps, defers := [] } := ⟨hfold, rfl⟩
  refine Code.wpIn_mono ?_ (vcI_sound r.assign _ [] _ [] _ _ w hat h)
  intro e a1 w1 h1
  cases e with
  | normal =>
    obtain ⟨fr1, ds1, hat1, henv1, rfl, hl1, h1⟩ := h1
    refine ⟨_, run_beginRound hl1 hst, ?_⟩
    have hb := vcI_sound (n := 0) r.body fr1 [] _ [] _ a1 (w1.putObj l (.loop { r with state := .busy })) hat1 h1
    refine Code.wpIn_mono ?_ hb
    intro e a2 w2 h2
    cases e with
    | normal =>
      obtain ⟨fr2, ds2, hat2, henv2, hl2, hk2⟩ := h2
      exact ⟨_, _, run_endRound none hl2, _, rfl, (henv1.trans (envPut w1 l _)).trans (henv2.trans (envPut w2 l _)), hk2⟩
    | ret =>
      obtain ⟨fr2, ds2, hat2, henv2, hl2, hk2⟩ := h2
      exact ⟨_, _, run_endRound (some .ret) hl2, _, rfl, (henv1.trans (envPut w1 l _)).trans (henv2.trans (envPut w2 l _)), hk2⟩
    | exit id => obtain ⟨_, _, _, _, h3⟩ := h2; exact h3.elim
    | goto l => obtain ⟨_, _, _, _, h3⟩ := h2; exact h3.elim
    | panic c => exact h2.elim
    | outgrown => exact h2.elim
  | exit id => obtain ⟨_, _, _, _, h3⟩ := h1; exact h3.elim
  | goto l => obtain ⟨_, _, _, _, h3⟩ := h1; exact h3.elim
  | ret => obtain ⟨_, _, _, _, h3⟩ := h1; exact h3.elim
  | panic c => exact h1.elim
  | outgrown => exact h1.elim
end Go.VC
/- Appending to an own slice that is used on as it was; pieces in another order, bundled, put aside. -/
set_option linter.unusedVariables false
set_option linter.unusedSimpArgs false
namespace Go.VC
theorem vappend2 {P : Program} {t tx ty e : TypeId} {sz by_ : Nat} {z : Value} {H : Heap} {K : Value → Heap → Prop} (ht : SlT P t e sz by_ z) {lo n m : Nat} {v x : Value} {cs news : List Value}
    (hs : Sl H lo e sz v n cs) (hlo : lo ≤ H.size) (hx : ∀ w : World, w.heap = H → Src P sz tx x m news w) (h63 : n + m ≤ maxLen) (hby : (n + m) * by_ ≤ 140737488355328)
    (h : ∀ v' H', Sl H' lo e sz v' (n + m) (cs ++ news) → Agr (fun k => k < H.size ∧ ¬ slB v k) H H' → H.size ≤ H'.size → (∀ k, slB v' k → slB v k ∨ H.size ≤ k) →
      ((∃ b cap, v = .slice (some ⟨b, 0, none⟩) n cap ∧ v' = .slice (some ⟨b, 0, none⟩) (n + m) cap) ∨ (Agr (fun k => k < H.size) H H' ∧ ∀ k, slB v' k → H.size ≤ k)) → K v' H') :
    VEff P (Builtin.append_ #[t, tx] ty [v, x].toArray) H K := by
  refine VEff.mk fun w hw => ?_
  subst hw
  obtain ⟨inf, hi, hsi, hbi, hz⟩ := ht.info
  have hsrc := hx w rfl
  have hsrc' : Src P inf.size tx x m news w := by rw [hsi]; exact hsrc
  have hnl : news.length = m * sz := hsrc.newsLen
  have h63' : n + m ≤ 9223372036854775807 := by simp only [maxLen] at h63; omega
  obtain ⟨hcl, hs2⟩ := hs
  have hlen : (cs ++ news).length = (n + m) * sz := by rw [List.length_append, hcl, hnl, Nat.add_mul]
  have grow : ∀ (base : Option Addr) (cap : Nat), v = .slice base n cap → cap < n + m → (Builtin.firstCells inf.size n (.slice base n cap)).run P w.drew = .ok cs.toArray w.drew →
      ∃ v' w', (Builtin.append_ #[t, tx] ty [v, x].toArray).run P w = .ok v' w' ∧ Env w w' ∧ K v' w'.heap := by
    intro base cap hv hcap hold
    subst hv
    have hr := run_append_grow_src (P := P) w t tx ty e inf z ht.under hi hz base n cap cs hold x m news hsrc' hcap (by omega) (growslice_fits (by omega) (by rw [hbi]; exact hby))
    refine ⟨_, _, hr, ⟨rfl, rfl, rfl⟩, ?_⟩
    have hge := grownCap_ge w (n + m) cap e
    have hle := grownCap_le_maxLen w (n + m) cap e h63
    have hblk : Blk (w.drew.alloc (.cells ((cs ++ news).toArray ++ Builtin.zeroCells z.cells (grownCap w (n + m) cap e - (n + m))) e)).heap w.heap.size e
        ((cs ++ news) ++ (Builtin.zeroCells z.cells (grownCap w (n + m) cap e - (n + m))).toList) := by
      unfold Blk
      have : (w.drew.alloc (.cells ((cs ++ news).toArray ++ Builtin.zeroCells z.cells (grownCap w (n + m) cap e - (n + m))) e)).heap = w.heap.push (.cells ((cs ++ news).toArray ++ Builtin.zeroCells z.cells (grownCap w (n + m) cap e - (n + m))) e) := rfl
      rw [this]
      simp
    refine h _ _ ⟨hlen, .inr ⟨w.heap.size, _, _, rfl, hlo, hblk, hge, hle, ?_, ?_⟩⟩ ?_ ?_ ?_ (.inr ⟨fun k hk => heap_push_old w.heap _ k hk, fun k hk => ?_⟩)
    · rw [List.length_append, hlen, Array.length_toList, size_zeroCells, ht.zsz, ← Nat.add_mul]
      congr 1; omega
    · rw [← hlen, List.take_left']; rfl
    · intro k hk
      exact heap_push_old w.heap _ k hk.1
    · show w.heap.size ≤ (w.heap.push _).size
      simp
    · rintro k ⟨o, n', c, hk⟩
      cases hk
      exact .inr (Nat.le_refl _)
    · obtain ⟨o, n', c, hk⟩ := hk
      cases hk
      exact Nat.le_refl _
  rcases hs2 with ⟨rfl, rfl⟩ | ⟨b, cap, l, rfl, hlob, hb, hnc, hcm, hll, htake⟩
  · have hcs : cs = [] := List.eq_nil_of_length_eq_zero (by simpa using hcl)
    subst hcs
    by_cases hm : m = 0
    · subst hm
      have hn : news = [] := List.eq_nil_of_length_eq_zero (by simpa using hnl)
      subst hn
      refine ⟨.slice none 0 0, w, ?_, Env.refl w, h _ _ (Sl.nil _ _ _ _) (Agr.refl _ _) (Nat.le_refl _) (fun k hk => .inl hk) (.inr ⟨Agr.refl _ _, fun k ⟨_, _, _, h⟩ => by cases h⟩)⟩
      rcases hsrc'.kind with ⟨e', hk⟩ | hk <;> simp [Builtin.append_, run_underlying ht.under, run_underlying hk, sizeOf, typeInfo, hi, hsrc'.len, hsrc'.cells]
    · exact grow none 0 rfl (by omega) (by simp [Builtin.firstCells])
  · by_cases hroom : n + m ≤ cap
    · have hfit : n * sz + news.length ≤ l.length := by rw [hnl, hll, ← Nat.add_mul]; exact Nat.mul_le_mul_right _ hroom
      have hr := run_append_room_src (P := P) w t tx ty e inf ht.under hi b 0 n cap x m news hsrc' hroom
        (fun j hj => by rw [cell_w, hb.cell]; simp [hsi]; omega) (fun j hj => frozen_blk hb)
      obtain ⟨h1, h2, h3, h4⟩ := setCells_blk news (0 + n * inf.size) l w hb (by rw [hsi]; omega)
      refine ⟨_, _, hr, h4, h _ _ ⟨hlen, .inr ⟨b, cap, _, rfl, hlob, h1, hroom, hcm, ?_, ?_⟩⟩ (h2.mono fun k hk => ?_) (by omega) ?_ (.inl ⟨b, cap, rfl, rfl⟩)⟩
      · rw [splice_length (by rw [hsi]; omega)]; exact hll
      · rw [hsi, Nat.zero_add]
        unfold splice
        rw [htake, ← hlen, List.take_left']; rfl
      · intro hkb; subst hkb; exact hk.2 ⟨0, n, cap, rfl⟩
      · rintro k ⟨o, n', c, hk⟩
        cases hk
        exact .inl ⟨0, n, cap, rfl⟩
    · refine grow (some ⟨b, 0, none⟩) cap rfl (by omega) ?_
      have hc : Cells w.heap b 0 cs := hb.cells fun j v hv => by
        rw [← htake, List.getElem?_take] at hv
        split at hv
        · simpa using hv
        · cases hv
      have := run_firstCells_some (P := P) w.drew inf.size n ⟨b, 0, none⟩ n cap cs (by rw [hsi]; exact hcl) (fun j v hv => by
        rw [Addr.add_mid]
        have := range_w (w := w.drew) (H := w.heap) hc rfl j v hv
        exact this)
      exact this
section
variable {B : Nat → Prop} {H0 H : Heap} {ps qs : List Pc} {p : Pc}
theorem StB.perm (st : StB B H0 H ps) (h : ps.Perm qs) : StB B H0 H qs :=
  ⟨st.old, st.lt0, st.size, fun p hp => st.oks p (h.mem_iff.2 hp), fun p hp => st.rng p (h.mem_iff.2 hp), (h.pairwise_iff fun {x y} hxy k hk hk' => hxy k hk' hk).1 st.dis⟩
theorem StB.sub (st : StB B H0 H ps) (h : qs.Sublist ps) : StB B H0 H qs :=
  ⟨st.old, st.lt0, st.size, fun p hp => st.oks p (h.subset hp), fun p hp => st.rng p (h.subset hp), st.dis.sublist h⟩
/-- Pieces as one. -/
def pAll (qs : List Pc) : Pc where
  foot k := ∃ q ∈ qs, q.foot k
  ok H := (∀ q ∈ qs, q.ok H) ∧ qs.Pairwise Dis
  fr h hp := ⟨fun q hq => q.fr (h.mono fun k hk => ⟨q, hq, hk⟩) (hp.1 q hq), hp.2⟩
/-- The bundle looked at by itself. -/
theorem StB.open_ (st : StB B H0 H ps) (i : Nat) (hp : ps[i]? = some (pAll qs)) : StB (fun k => k < H.size ∧ ¬ (pAll qs).foot k) H H qs := by
  obtain ⟨h1, h2⟩ := st.at_ i hp
  exact ⟨Agr.refl _ _, fun k hk => hk.1, Nat.le_refl _, h1, fun q hq k hk => ⟨fun h => h.2 ⟨q, hq, hk⟩, (st.in_ i hp ⟨q, hq, hk⟩).2⟩, h2⟩
theorem StB.close {H' : Heap} {qs' : List Pc} (st : StB B H0 H ps) (i : Nat) (hp : ps[i]? = some (pAll qs)) (st' : StB (fun k => k < H.size ∧ ¬ (pAll qs).foot k) H H' qs') : StB B H0 H' (ps.set i (pAll qs')) := by
  refine st.upd i hp st'.old _ ⟨st'.oks, st'.dis⟩ (fun k hk => ?_) (fun k hk => ?_) st'.size
  · obtain ⟨q, hq, hk⟩ := hk
    have := (st'.rng q hq k hk).1
    by_cases h1 : k < H.size
    · by_cases h2 : (pAll qs).foot k
      · exact .inl h2
      · exact absurd ⟨h1, h2⟩ this
    · exact .inr (by omega)
  · obtain ⟨q, hq, hk⟩ := hk
    exact (st'.rng q hq k hk).2
/-- The first pieces bundled. -/
theorem StB.bundle {rs : List Pc} (st : StB B H0 H (qs ++ rs)) : StB B H0 H (pAll qs :: rs) := by
  obtain ⟨d1, d2, d3⟩ := List.pairwise_append.1 st.dis
  refine ⟨st.old, st.lt0, st.size, fun p hp => ?_, fun p hp k hk => ?_, List.pairwise_cons.2 ⟨fun r hr k hk hk' => ?_, d2⟩⟩
  · rcases List.mem_cons.1 hp with rfl | hp
    · exact ⟨fun q hq => st.oks q (List.mem_append.2 (.inl hq)), d1⟩
    · exact st.oks p (List.mem_append.2 (.inr hp))
  · rcases List.mem_cons.1 hp with rfl | hp
    · obtain ⟨q, hq, hk⟩ := hk
      exact st.rng q (List.mem_append.2 (.inl hq)) k hk
    · exact st.rng p (List.mem_append.2 (.inr hp)) k hk
  · obtain ⟨q, hq, hk⟩ := hk
    exact d3 q hq r hr k hk hk'
theorem StB.unbundle {rs : List Pc} (st : StB B H0 H (pAll qs :: rs)) : StB B H0 H (qs ++ rs) := by
  obtain ⟨d1, d2⟩ := List.pairwise_cons.1 st.dis
  have h0 := st.oks _ (List.mem_cons_self ..)
  refine ⟨st.old, st.lt0, st.size, fun p hp => ?_, fun p hp k hk => ?_, List.pairwise_append.2 ⟨h0.2, d2, fun q hq r hr k hk hk' => d1 r hr k ⟨q, hq, hk⟩ hk'⟩⟩
  · rcases List.mem_append.1 hp with hp | hp
    · exact h0.1 p hp
    · exact st.oks p (List.mem_cons.2 (.inr hp))
  · rcases List.mem_append.1 hp with hp | hp
    · exact st.rng _ (List.mem_cons_self ..) k ⟨p, hp, hk⟩
    · exact st.rng p (List.mem_cons.2 (.inr hp)) k hk
end
section
variable {α : Type} {T : Ty α} {e : TypeId} {a : Option Addr} {n cap : Nat} {xs : List α} {B : Nat → Prop} {H0 H : Heap} {p1 p2 : Pc} {rest : List Pc}
/-- One element more, in place or in a new block; the slice as it was is to be used on. -/
theorem push1 {P : Program} {t ty q by_ : Nat} {z v : Value} {x : α} {K : Value → Heap → Prop} (st : StB B H0 H (p1 :: p2 :: pS T e a n cap xs :: rest)) (ht : SlT P t e T.size by_ z)
    (hd : Blk H q e [v]) (hy : T.rep none_ H [v] x) (hv : v.oneCell' = true) (h63 : xs.length + 1 ≤ 4194304) (hby : by_ ≤ 1024)
    (k1 : ∀ H', StB B H0 H' (p1 :: p2 :: pS T e a (n + 1) cap (xs ++ [x]) :: rest) → K (.slice a (n + 1) cap) H')
    (k2 : ∀ a' cap' H', StB B H0 H' (p1 :: p2 :: pS T e a' (n + 1) cap' (xs ++ [x]) :: pS T e a n cap xs :: rest) → K (.slice a' (n + 1) cap') H') :
    VEff P (Builtin.append_ #[t, t] ty [.slice a n cap, .slice (some ⟨q, 0, none⟩) 1 1].toArray) H K := by
  have hp : (p1 :: p2 :: pS T e a n cap xs :: rest)[2]? = some (pS T e a n cap xs) := rfl
  obtain ⟨cs, hsl, hr⟩ := (st.at_ 2 hp).1
  have hn := st.len 2 hp
  subst hn
  refine vappend2 (m := 1) (news := [v]) (lo := 0) ht hsl (Nat.zero_le _) (fun w hw => ?_) (by unfold maxLen; omega) (by have := Nat.mul_le_mul h63 hby; omega) ?_
  · refine Src.ofSlice w ht.under ⟨q, 0, none⟩ 1 1 [v] (by have := T.len hy; simpa using this) (fun j u hu => ?_) (fun u hu => by rw [List.mem_singleton] at hu; subst hu; exact hv)
    rw [Addr.add_mid]
    subst hw
    rw [cell_w, hd.cell, Nat.zero_add]
    exact hu
  · intro v' H' hsl' hagr hsz hbb hcase
    have hrr : T.reps none_ H' (cs ++ [v]) (xs ++ [x]) := Ty.reps_append (Ty.reps_frame (hagr.mono fun k hk => hk.elim) hr) (Ty.reps_frame (hagr.mono fun k hk => hk.elim) (Ty.reps_one hy))
    rcases hcase with ⟨b, c, e1, rfl⟩ | ⟨hall, hnew⟩
    · injection e1 with e2 _ e3
      subst e2; subst e3
      refine k1 H' (st.upd 2 hp (hagr.mono fun k hk => ⟨hk.1, fun hb => hk.2 (.inl hb)⟩) _ ⟨⟨_, by rw [List.length_append]; exact hsl', hrr⟩, fun k hk => hk.elim⟩ (fun k hk => ?_) (fun k hk => ?_) hsz)
      · rcases hk with ⟨o, n', c', hk⟩ | hk
        · cases hk; exact .inl (.inl ⟨0, _, _, rfl⟩)
        · exact hk.elim
      · rcases hk with ⟨o, n', c', hk⟩ | hk
        · cases hk
          have := (st.in_ 2 hp (.inl ⟨0, _, _, rfl⟩)).2
          omega
        · exact hk.elim
    · have hown : SlO T none_ H' 0 e v' (xs ++ [x]) := ⟨_, by rw [List.length_append]; exact hsl', hrr⟩
      have hup : SlO T none_ H' H.size e v' (xs ++ [x]) := hown.up hnew
      obtain ⟨a', cap', rfl, st'⟩ := st.got hall hup
      rw [List.length_append] at st' ⊢
      exact k2 a' cap' H' (st'.perm (((List.perm_append_singleton (pS T e a' (xs.length + 1) cap' (xs ++ [x])) (pS T e a xs.length cap xs :: rest)).cons p2).cons p1))
/-- And back. -/
theorem StB.pop1 {m : Nat} {x : α} (st : StB B H0 H (p1 :: p2 :: pS T e a m cap (xs ++ [x]) :: rest)) : StB B H0 H (p1 :: p2 :: pS T e a xs.length cap xs :: rest) := by
  have hp : (p1 :: p2 :: pS T e a m cap (xs ++ [x]) :: rest)[2]? = some (pS T e a m cap (xs ++ [x])) := rfl
  refine st.say 2 hp (pS T e a xs.length cap xs) ⟨(st.at_ 2 hp).1.pop, fun k hk => hk.elim⟩ (fun k hk => ?_)
  rcases hk with ⟨o, n', c', hk⟩ | hk
  · cases hk; exact .inl ⟨o, _, _, rfl⟩
  · exact hk.elim
end
end Go.VC
/- slices.Sorted of maps.Keys of a map of ints: the walk. -/
set_option linter.unusedVariables false
set_option linter.unusedSimpArgs false
set_option maxRecDepth 100000
namespace Go.VC
theorem VRound.mk2 {P : Program} {l : Nat} {args : Array Value} {H : Heap} {K : Value → Heap → Prop} (fn : FuncId) (tmps : Array Value) (ps : Array Tmp) (assign body : Code) (D : Nat) (rec : LoopState → Option Code → Loop)
    (hrec : rec = fun st pe => { state := st, pending := pe, fn := fn, tmps := tmps, params := ps, assign := assign, body := body, defers := D }) (hr : H[l]? = some (.loop (rec .ready none))) (hs : args.size = ps.size)
    (h : normK (wrs tmps.toList ps.toList args.toList) fun fr => vcI P (some l) assign fr [] H (fun fr1 ds1 H1 => ds1 = [] ∧ H1[l]? = some (.loop (rec .ready none)) ∧
      vcI P (some l) body fr1 [] (H1.setIfInBounds l (.loop (rec .busy none))) (fun _ _ H2 => H2[l]? = some (.loop (rec .busy none)) ∧ K (.bool true) (H2.setIfInBounds l (.loop (rec .ready none)))) []
        (fun _ _ H2 => H2[l]? = some (.loop (rec .busy none)) ∧ K (.bool false) (H2.setIfInBounds l (.loop (rec .done (some .ret)))))) [] (fun _ _ _ => False)) : VRound P l args H K := by
  subst hrec
  exact VRound.mk _ hr rfl hs h
theorem VRound_mono {P : Program} {l : Nat} {args : Array Value} {H : Heap} {K K' : Value → Heap → Prop} (h : VRound P l args H K) (k : ∀ v H', K v H' → K' v H') : VRound P l args H K' :=
  ⟨fun w hw => by
    obtain ⟨f, t, a, b, h1, h2⟩ := h.out w hw
    exact ⟨f, t, a, b, h1, h2.mono fun e w' ⟨v, h3, h4, h5⟩ => ⟨v, h3, h4, k _ _ h5⟩⟩⟩
/-- The record of a loop over a function. -/
def pLp (L : Nat) (r : Loop) : Pc := ⟨fun k => k = L, fun H => H[L]? = some (.loop r), fun h hp => (h L rfl).trans hp⟩
/-- Marks: blocks for deferred calls, none of which holds any. -/
def pDs (ds : List Nat) : Pc := ⟨fun k => k ∈ ds, fun H => ∀ D ∈ ds, H[D]? = some (.deferred (some [])), fun h hp D hD => (h D hD).trans (hp D hD)⟩
section
variable {B : Nat → Prop} {H0 H : Heap} {ps rest : List Pc}
theorem StB.lpSet {L : Nat} {r : Loop} (st : StB B H0 H ps) (i : Nat) (hp : ps[i]? = some (pLp L r)) (r' : Loop) : StB B H0 (H.setIfInBounds L (.loop r')) (ps.set i (pLp L r')) := by
  have hl : H[L]? = some (.loop r) := st.at_ i hp
  have hlt := (Array.getElem?_eq_some_iff.1 hl).1
  refine st.upd i hp (fun k hk => ?_) _ ?_ (fun k hk => .inl hk) (fun k hk => ?_) (by simp)
  · have : k ≠ L := fun e => hk.2 e
    rw [Array.getElem?_setIfInBounds_ne (Ne.symm this)]
  · show (H.setIfInBounds L _)[L]? = _
    rw [Array.getElem?_setIfInBounds_self_of_lt hlt]
  · have : k = L := hk
    subst this
    simpa using hlt
theorem StB.push (st : StB B H0 H ps) (o : Obj) (p : Pc) (hf : ∀ k, p.foot k → k = H.size) (hok : p.ok (H.push o)) : StB B H0 (H.push o) (ps ++ [p]) :=
  st.add (heap_push_old H o) p hok fun k hk => by have := hf k hk; subst this; simp
theorem StB.pushMark (st : StB B H0 H ps) : StB B H0 (H.push (.deferred (some []))) (ps ++ [pDs [H.size]]) :=
  st.push _ _ (fun k hk => by simpa [pDs] using hk) (fun D hD => by rw [List.mem_singleton] at hD; subst hD; simp)
theorem StB.pushLoop (st : StB B H0 H ps) (r : Loop) : StB B H0 (H.push (.loop r)) (ps ++ [pLp H.size r]) :=
  st.push _ _ (fun k hk => hk) (by show (H.push _)[H.size]? = _; simp)
theorem StB.dsOff {ds : List Nat} {H' : Heap} (st : StB B H0 H (pDs ds :: rest)) (ha : Agr (fun k => k ∉ ds) H H') (hs : H'.size = H.size) : StB B H0 H' rest := by
  have := st.upd 0 (p := pDs ds) rfl (ha.mono fun k hk => hk.2) ⟨fun _ => False, fun _ => True, fun _ _ => trivial⟩ trivial (fun k hk => hk.elim) (fun k hk => hk.elim) (by omega)
  exact this.sub (List.sublist_cons_self _ _)
/-- Some of the first n pieces, in another order, and the others. -/
theorem StB.pickN (st : StB B H0 H ps) (n : Nat) (is : List Nat) (hn : is.Nodup) : StB B H0 H ((is.filterMap fun i => (ps.take n)[i]?) ++ ps.drop n) := by
  have e := List.take_append_drop n ps
  rw [← e] at st
  generalize ps.take n = qs at *
  generalize ps.drop n = rs at *
  obtain ⟨d1, d2, d3⟩ := List.pairwise_append.1 st.dis
  have st1 : StB B H0 H qs := st.sub (List.sublist_append_left _ _)
  have st2 := st1.pick is hn
  have hm : ∀ q, q ∈ is.filterMap (fun i => qs[i]?) → q ∈ qs := fun q hq => by
    obtain ⟨i, -, hi⟩ := List.mem_filterMap.1 hq
    exact List.mem_of_getElem? hi
  refine ⟨st.old, st.lt0, st.size, fun q hq => ?_, fun q hq k hk => ?_, List.pairwise_append.2 ⟨st2.dis, d2, fun q hq r hr => d3 q (hm q hq) r hr⟩⟩
  · rcases List.mem_append.1 hq with hq | hq
    · exact st2.oks q hq
    · exact st.oks q (List.mem_append.2 (.inr hq))
  · rcases List.mem_append.1 hq with hq | hq
    · exact st2.rng q hq k hk
    · exact st.rng q (List.mem_append.2 (.inr hq)) k hk
end
end Go.VC
namespace Go.Proofs.YthomdogheamfpaaDoor
open Go.VC
abbrev kI : Int → Value := Value.int .i64
theorem keyIW : KeyW Tryd.prog 3 (anyK (α := Int)) kI := KeyW.ofE Tryd.underlying3 (keyI .i64)
theorem mapII : MapTW Tryd.prog 88 3 3 (.int .i64 0) := ⟨rfl, rfl⟩
abbrev Dom (mm : Int → Option Value) : Int → Prop := fun q => (mm q).isSome = true
abbrev tIk : Ty Int := tInt .i64
/-- What a call of yield does: the int is put to the others. -/
def YOkI (l : Nat) (ok : Int → Prop) (Q : List Int → Pc → Prop) : Prop :=
  ∀ {B : Nat → Prop} {H0 H : Heap} {ps : List Pc} (st : StB B H0 H ps) (i : Nat) (p : Pc) (pre : List Int) (x : Int), ps[i]? = some p → Q pre p → pre.length < 65536 → ok x →
    VRound Tryd.prog l #[.int .i64 x] H fun v H' => v = .bool true ∧ ∃ p', Q (pre ++ [x]) p' ∧ StB B H0 H' (ps.set i p')
theorem nodupI_len : ∀ (n : Nat) (l : List Int), l.Nodup → (∀ x ∈ l, 0 ≤ x ∧ x < (n : Int)) → l.length ≤ n
  | 0, l, _, h => by
    cases l with
    | nil => exact Nat.le_refl _
    | cons x l => have := h x List.mem_cons_self; omega
  | n + 1, l, hd, h => by
    have h1 := nodupI_len n (l.filter fun x => decide (x < (n : Int))) (hd.filter _) (fun x hx => by
      obtain ⟨h1, h2⟩ := List.mem_filter.1 hx
      exact ⟨(h x h1).1, by simpa using h2⟩)
    have h2 : l.length ≤ (l.filter fun x => decide (x < (n : Int))).length + 1 := by
      clear h1
      induction l with
      | nil => simp
      | cons x l ih =>
        rw [List.nodup_cons] at hd
        by_cases hx : x < (n : Int)
        · rw [List.filter_cons_of_pos (by simpa using hx)]
          have := ih hd.2 (fun y hy => h y (List.mem_cons_of_mem _ hy))
          simp only [List.length_cons]; omega
        · rw [List.filter_cons_of_neg (by simpa using hx)]
          have hxn : x = (n : Int) := by have := h x List.mem_cons_self; omega
          have : l.filter (fun x => decide (x < (n : Int))) = l := List.filter_eq_self.2 fun y hy => by
            have h3 := h y (List.mem_cons_of_mem _ hy)
            have : y ≠ x := fun e => hd.1 (e ▸ hy)
            rw [decide_eq_true_eq]; omega
          rw [this]; simp
    omega
set_option maxHeartbeats 4000000 in
theorem keys1_c {B : Nat → Prop} {H0 H : Heap} {l nb bx : Nat} {Q : List Int → Pc → Prop} {mm : Int → Option Value} {rest : List Pc} {p : Pc} (hr : ∀ q, Dom mm q → 0 ≤ q ∧ q < 65536) (hy : YOkI l (fun x => 0 ≤ x ∧ x < 65536) Q)
    (st : StB B H0 H (p :: pMW anyK kI nb mm :: pB 88 bx [.map (some nb)] :: rest)) (hQ : Q [] p) :
    FnOk Tryd.prog 113 #[.func (.yield l) #[] #[], .pointer (some ⟨bx, 0, none⟩)] H fun _ H' => ∃ ks p', Q ks p' ∧ ks.Nodup ∧ (∀ q, q ∈ ks ↔ Dom mm q) ∧ StB B H0 H' (p' :: pMW anyK kI nb mm :: pB 88 bx [.map (some nb)] :: rest) := by
  refine FnOk.of_vcI Tryd.func113 rfl (Tryd.call113 _) ?_
  (conv => whnf); refine ld1 (v := .map (some nb)) ct88 (by rw [(st.blk 2 rfl).cell]; rfl) trivial ?_
  (conv => whnf); refine mrangeP st 1 mapII rfl fun r n H1 st1 => ?_
  (conv => whnf)
  refine VLoopD.mk [] (fun _ : List Int × Nat => []) (fun x ds H2 => ds = [] ∧ x.1.Nodup ∧ (∀ q ∈ x.1, Dom mm q) ∧ ∃ D last p', (∀ q, D q ↔ q ∈ x.1) ∧ Q x.1 p' ∧ StB B H0 H2 (p' :: pIW anyK kI nb r mm D last x.2 :: pB 88 bx [.map (some nb)] :: rest)) (fun x _ => x.2) ?_ ?_
  · (conv => whnf)
    exact ⟨([], n), rfl, rfl, List.Pairwise.nil, (fun q h => by cases h), _, none, p, fun q => ⟨fun h => h.elim, fun h => by cases h⟩, hQ, st1⟩
  · rintro ⟨ks, n2⟩ ds H2 junk ⟨rfl, hnd, hin, D, last, p', hD, hQ2, st2⟩
    simp only at hnd hin hD hQ2 st2
    have hlen := nodupI_len 65536 ks hnd fun x hx => hr x (hin x hx)
    (conv => whnf); refine mnextP st2 1 keyIW.inj rfl (fun hall => ?_) fun q v H3 n3 hq hnD hlt st3 => ?_
    · (conv => whnf); refine VRet.nil ?_
      (conv => whnf)
      exact ⟨ks, p', hQ2, hnd, fun q => ⟨hin q, fun h => (hD q).1 (hall q h)⟩, st2.iterEnd 1 rfl⟩
    · have hdq : Dom mm q := by unfold Dom; rw [hq]; rfl
      have hqk : q ∉ ks := fun h => hnD ((hD q).2 h)
      have hlt2 : ks.length < 65536 := by
        have := nodupI_len 65536 (ks ++ [q]) (List.nodup_append.2 ⟨hnd, by simp, fun x hx y hy e => by rw [List.mem_singleton] at hy; subst hy; subst e; exact hqk hx⟩) fun x hx => by
          rcases List.mem_append.1 hx with h | h
          · exact hr x (hin x h)
          · rw [List.mem_singleton] at h; subst h; exact hr x hdq
        simp at this
        omega
      (conv => whnf); refine mhere (st3.iterW 1 rfl) keyIW.inj hq ?_
      (conv => whnf); refine VRound_mono (hy st3 0 p' ks q rfl hQ2 hlt2 (hr q hdq)) fun v' H4 h4 => ?_
      obtain ⟨rfl, p2, hQ4, st4⟩ := h4
      (conv => whnf)
      refine ⟨rfl, (ks ++ [q], n3), rfl, ⟨rfl, List.nodup_append.2 ⟨hnd, by simp, fun x hx y hy e => by rw [List.mem_singleton] at hy; subst hy; subst e; exact hqk hx⟩, fun x hx => ?_, _, _, p2, fun x => ?_, hQ4, st4⟩, hlt⟩
      · rcases List.mem_append.1 hx with h | h
        · exact hin x h
        · rw [List.mem_singleton] at h; subst h; exact hdq
      · simp only [List.mem_append, List.mem_singleton, hD]
/-- What the loop's body holds. -/
def SQ (L : Nat) (rec : LoopState → Option Code → Loop) (b : Nat) (pre : List Int) (p : Pc) : Prop :=
  ∃ a cap, p = pAll [pLp L (rec .ready none), pB 33 b [.slice a pre.length cap], pS tIk 3 a pre.length cap pre]
theorem kint {x : Int} (h : 0 ≤ x ∧ x < 65536) : inK .i64 x := ⟨by simp [IntKind.min, IntKind.signed, IntKind.bits]; omega, by simp [IntKind.max, IntKind.signed, IntKind.bits]; omega⟩
set_option maxHeartbeats 4000000 in
theorem appendSeq_c {B : Nat → Prop} {H0 H : Heap} {nb bx : Nat} {mm : Int → Option Value} {rest : List Pc} (hr : ∀ q, Dom mm q → 0 ≤ q ∧ q < 65536)
    (st : StB B H0 H (pMW anyK kI nb mm :: pB 88 bx [.map (some nb)] :: rest)) :
    FnOk Tryd.prog 126 #[.slice none 0 0, .func (.func 113) #[] #[.pointer (some ⟨bx, 0, none⟩)]] H fun r H' => ∃ ks a cap, r = .slice a ks.length cap ∧ ks.Nodup ∧ (∀ q, q ∈ ks ↔ Dom mm q) ∧ StB B H0 H' (pS tIk 3 a ks.length cap ks :: pMW anyK kI nb mm :: pB 88 bx [.map (some nb)] :: rest) := by
  refine FnOk.of_vcI Tryd.func126 rfl (Tryd.call126 _) ?_
  (conv => whnf); refine vbox [.slice none 0 0] rfl ?_
  intro b2 H1 hb2 hs1 hk1 ha1
  have st1 : StB B H0 H1 (pB 33 b2 [.slice none 0 0] :: pMW anyK kI nb mm :: pB 88 bx [.map (some nb)] :: rest) := (st.box hb2 hs1 hk1 ha1).perm (List.perm_append_singleton _ _)
  have st2 : StB B H0 H1 (pS tIk 3 none 0 0 [] :: pB 33 b2 [.slice none 0 0] :: pMW anyK kI nb mm :: pB 88 bx [.map (some nb)] :: rest) := (st1.nils tIk 3).perm (List.perm_append_singleton _ _)
  (conv => whnf); refine VRF.mk 113 #[.pointer (some ⟨bx, 0, none⟩)] rfl ?_
  rintro rec ⟨fn, hrec⟩
  have st3 := st2.pushMark.perm (List.perm_append_singleton _ _)
  have st4 := (st3.pushLoop (rec .ready none)).perm (List.perm_append_singleton _ _)
  rw [Array.size_push] at st4
  have st5 : StB B H0 _ ([pLp (H1.size + 1) (rec .ready none), pB 33 b2 [.slice none 0 0], pS tIk 3 none 0 0 []] ++ (pMW anyK kI nb mm :: pB 88 bx [.map (some nb)] :: pDs [H1.size] :: rest)) := st4.pickN 6 [0, 3, 2, 4, 5, 1] (by decide)
  have st6 := st5.bundle
  have hy : YOkI (H1.size + 1) (fun x => 0 ≤ x ∧ x < 65536) (SQ (H1.size + 1) rec b2) := by
    intro B' H0' H'' ps st i p pre x hp hQ hle hx
    obtain ⟨a', cap', rfl⟩ := hQ
    have so := st.open_ i hp
    refine VRound.mk2 _ _ _ _ _ _ rec hrec (so.at_ 0 rfl) rfl ?_
    (conv => whnf)
    refine ⟨rfl, so.at_ 0 rfl, ?_⟩
    have so1 := so.lpSet 0 rfl (rec .busy none)
    (conv => whnf); refine ld1 (v := .slice a' pre.length cap') ct33 (by rw [(so1.blk 1 rfl).cell]; rfl) trivial ?_
    (conv => whnf); refine vbuild1 sl33 [.int .i64 x] rfl rfl (by decide) (by decide) ?_
    intro q21 H21 hq21 hs21 hb21 ha21
    (conv => whnf); refine app1 (x := x) (so1.skip hq21 ha21) 2 sl33 rfl hb21 ⟨rfl, kint hx⟩ rfl (by omega) (by decide) fun a'' c'' H22 so2 _ => ?_
    (conv => whnf); refine st1B so2 1 ct33 rfl (by simp) rfl fun H23 so3 => ?_
    (conv => whnf)
    have so4 := so3.lpSet 0 rfl (rec .ready none)
    have el : pre.length + 1 = (pre ++ [x]).length := by simp
    refine ⟨so3.at_ 0 rfl, rfl, _, ⟨a'', c'', rfl⟩, ?_⟩
    rw [el] at so4
    exact st.close i hp so4
  refine (keys1_c (Q := SQ (H1.size + 1) rec b2) hr hy st6 ⟨none, 0, rfl⟩).mono fun _ H8 hE => ?_
  obtain ⟨ks, p1, ⟨a1, c1, rfl⟩, hnd, hin, st7⟩ := hE
  have st8 := st7.unbundle
  refine ⟨.ready, none, by decide, st8.at_ 0 rfl, .inl ⟨rfl, ?_⟩⟩
  have st9 := st8.lpSet 0 rfl (rec .exhausted none)
  have st10 : StB B H0 _ (pDs [H1.size] :: pS tIk 3 a1 ks.length c1 ks :: pMW anyK kI nb mm :: pB 88 bx [.map (some nb)] :: pB 33 b2 [.slice a1 ks.length c1] :: rest) := st9.pickN 6 [5, 2, 3, 4, 1] (by decide)
  (conv => whnf); refine ld1 (v := .slice a1 ks.length c1) ct33 (by rw [(st10.blk 4 rfl).cell]; rfl) trivial ?_
  (conv => whnf)
  refine VRet.in_ (by simp) (st10.at_ 0 rfl) fun H'' ha hs => ?_
  have st11 := st10.dsOff ha hs
  (conv => whnf)
  exact ⟨ks, a1, c1, rfl, hnd, hin, st11.pickN 4 [0, 1, 2] (by decide)⟩
theorem sorted_srt {ks : List Int} (h : ks.Nodup) : (ks.mergeSort fun x y => decide (x ≤ y)).Pairwise (· < ·) := by
  have h1 : (ks.mergeSort fun x y => decide (x ≤ y)).Pairwise (· ≤ ·) := (List.pairwise_mergeSort (fun a b c h1 h2 => by simp only [decide_eq_true_eq] at *; omega) (fun a b => by simp only [Bool.or_eq_true, decide_eq_true_eq]; omega) _).imp fun h => of_decide_eq_true h
  have h2 : (ks.mergeSort fun x y => decide (x ≤ y)).Nodup := (List.mergeSort_perm _ _).nodup_iff.2 h
  exact (h1.and h2).imp fun ⟨h3, h4⟩ => by omega
set_option maxHeartbeats 4000000 in
/-- The keys in order, as a list of the call's own. -/
theorem sortedKeys_c {B : Nat → Prop} {H0 H : Heap} {nb bx : Nat} {mm : Int → Option Value} {rest : List Pc} (hr : ∀ q, Dom mm q → 0 ≤ q ∧ q < 65536)
    (st : StB B H0 H (pMW anyK kI nb mm :: pB 88 bx [.map (some nb)] :: rest)) :
    FnOk Tryd.prog 85 #[.func (.func 113) #[] #[.pointer (some ⟨bx, 0, none⟩)]] H fun r H' => ∃ ks a cap, r = .slice a ks.length cap ∧ ks.Pairwise (· < ·) ∧ (∀ q, q ∈ ks ↔ Dom mm q) ∧ StB B H0 H' (pS tIk 3 a ks.length cap ks :: pMW anyK kI nb mm :: pB 88 bx [.map (some nb)] :: rest) := by
  refine FnOk.of_vc Tryd.func85 rfl (Tryd.call85 _) ?_
  (conv => whnf); refine VCall.mk (R := fun r H' => ∃ ks a cap, r = .slice a ks.length cap ∧ ks.Nodup ∧ (∀ q, q ∈ ks ↔ Dom mm q) ∧ StB B H0 H' (pS tIk 3 a ks.length cap ks :: pMW anyK kI nb mm :: pB 88 bx [.map (some nb)] :: rest)) ?_ ?_
  · refine FnOk.of_vc Tryd.func112 rfl (Tryd.call112 _) ?_
    (conv => whnf); refine VCall.mk (appendSeq_c hr st) ?_
    rintro _ H1 ⟨ks, a, cap, rfl, h1, h2, h3⟩
    (conv => whnf)
    exact ⟨ks, a, cap, rfl, h1, h2, h3⟩
  · rintro _ H1 ⟨ks, a, cap, rfl, hnd, hin, st1⟩
    have hlen := nodupI_len 65536 ks hnd fun x hx => hr x ((hin x).1 hx)
    (conv => whnf); refine sortI sorts_ st1 0 rfl (by omega) fun H2 st2 => ?_
    (conv => whnf)
    have el : (ks.mergeSort fun x y => decide (x ≤ y)).length = ks.length := List.length_mergeSort _
    refine ⟨ks.mergeSort fun x y => decide (x ≤ y), a, cap, by rw [el], sorted_srt hnd, fun q => by rw [List.mem_mergeSort]; exact hin q, ?_⟩
    rw [el]
    exact st2
end Go.Proofs.YthomdogheamfpaaDoor
/- Tables and automata, in plain Lean. -/
set_option linter.unusedVariables false
set_option linter.unusedSimpArgs false
namespace Go.Proofs.YthomdogheamfpaaDoor

/-- The union of the cells, if no two meet. -/
def disjGo (all : BitVec 256) : List (BitVec 256) → Option (BitVec 256)
  | [] => some all
  | c :: cs => if all &&& c = 0#256 then disjGo (all ||| c) cs else none
theorem disjGo_append (all : BitVec 256) (cs ds : List (BitVec 256)) : disjGo all (cs ++ ds) = (disjGo all cs).bind fun x => disjGo x ds := by
  induction cs generalizing all with
  | nil => rfl
  | cons c cs ih =>
    simp only [List.cons_append, disjGo]
    split
    · exact ih _
    · rfl
theorem disjGo_snoc {all : BitVec 256} {cs : List (BitVec 256)} {x c : BitVec 256} (h : disjGo all cs = some x) : disjGo all (cs ++ [c]) = if x &&& c = 0#256 then some (x ||| c) else none := by
  rw [disjGo_append, h]; rfl
def rowOk (n m : Nat) (row : List Int) : Bool := row.length == m && row.all fun q => decide (0 ≤ q) && decide (q < (n : Int))
def soundB (cells : List (BitVec 256)) (next : List (List Int)) (fl : Nat) : Bool :=
  match disjGo 0#256 cells with
  | none => false
  | some all => all == BitVec.allOnes 256 && decide (1 ≤ next.length) && decide (next.length ≤ 65536) && next.length == fl && next.all (rowOk next.length cells.length)

theorem take_succ_snoc {α : Type} {l : List α} {k : Nat} {x : α} (h : l[k]? = some x) : l.take (k + 1) = l.take k ++ [x] := by
  rw [List.take_add_one, h]; rfl
theorem get_some {α : Type} {l : List α} {k : Nat} (h : k < l.length) : ∃ x, l[k]? = some x := ⟨l[k], List.getElem?_eq_getElem h⟩

/-! ### merging -/
def alikeB (next : List (List Int)) (c d : Nat) : Bool := c == d || next.all fun row => row[c]? == row[d]?
def cellOf (cells : List (BitVec 256)) (b : Nat) : Nat := cells.findIdx fun c => c.getLsbD b
structure MS where
  cols : List Nat
  sets : List (BitVec 256)
  cell : List Nat
def mFind (next : List (List Int)) (cols : List Nat) (f : Nat) : Option Nat := cols.findIdx? fun c => alikeB next c f
/-- The columns, the sets and the place, once there is a column for f. -/
def mNew (next : List (List Int)) (cols : List Nat) (sets : List (BitVec 256)) (f : Nat) : List Nat × List (BitVec 256) × Nat :=
  match mFind next cols f with
  | some i => (cols, sets, i)
  | none => (cols ++ [f], sets ++ [0#256], cols.length)
def mStep (next : List (List Int)) (cells : List (BitVec 256)) (st : MS) (b : Nat) (s : BitVec 256) : MS :=
  let r := mNew next st.cols st.sets (cellOf cells b)
  ⟨r.1, r.2.1.set r.2.2 (r.2.1.getD r.2.2 0#256 ||| s), st.cell ++ [r.2.2]⟩
def mRun (next : List (List Int)) (cells : List (BitVec 256)) (sp : Nat → BitVec 256) : Nat → MS
  | 0 => ⟨[], [], []⟩
  | b + 1 => mStep next cells (mRun next cells sp b) b (sp b)

theorem disjGo_bits {all : BitVec 256} {cs : List (BitVec 256)} {x : BitVec 256} (h : disjGo all cs = some x) (b : Nat) : x.getLsbD b = (all.getLsbD b || cs.any fun c => c.getLsbD b) := by
  induction cs generalizing all with
  | nil => simp only [disjGo, Option.some.injEq] at h; subst h; simp
  | cons c cs ih =>
    simp only [disjGo] at h
    split at h
    · rw [ih h, BitVec.getLsbD_or, List.any_cons, Bool.or_assoc]
    · cases h
theorem soundB_cells {cells : List (BitVec 256)} {next : List (List Int)} {fl : Nat} (h : soundB cells next fl = true) {b : Nat} (hb : b < 256) : cellOf cells b < cells.length ∧ ∀ c, cells[cellOf cells b]? = some c → c.getLsbD b = true := by
  unfold soundB at h
  split at h
  · cases h
  · rename_i all hall
    simp only [Bool.and_eq_true, beq_iff_eq] at h
    have h1 := disjGo_bits hall b
    rw [h.1.1.1.1, BitVec.getLsbD_allOnes] at h1
    simp only [hb, decide_true, BitVec.getLsbD_zero, Bool.false_or] at h1
    have h2 : cellOf cells b < cells.length := List.findIdx_lt_length.2 (by simpa using (List.any_eq_true.1 h1.symm))
    refine ⟨h2, fun c hc => ?_⟩
    have := List.findIdx_getElem (w := h2)
    rw [List.getElem?_eq_getElem h2] at hc
    cases hc
    exact this
theorem cellOf_before {cells : List (BitVec 256)} {b k : Nat} {c : BitVec 256} (hk : k < cellOf cells b) (hc : cells[k]? = some c) : c.getLsbD b = false := by
  have := List.not_of_lt_findIdx hk
  have hlt := (List.getElem?_eq_some_iff.1 hc).1
  rw [List.getElem?_eq_getElem hlt] at hc
  cases hc
  simpa using this
theorem soundB_rows {cells : List (BitVec 256)} {next : List (List Int)} {fl : Nat} (h : soundB cells next fl = true) : 1 ≤ next.length ∧ next.length ≤ 65536 ∧ next.length = fl ∧ ∀ row ∈ next, row.length = cells.length ∧ ∀ q ∈ row, 0 ≤ q ∧ q < (next.length : Int) := by
  unfold soundB at h
  split at h
  · cases h
  · simp only [Bool.and_eq_true, beq_iff_eq, decide_eq_true_eq, List.all_eq_true, rowOk] at h
    exact ⟨h.1.1.1.2, h.1.1.2, h.1.2, fun row hr => ⟨(h.2 row hr).1, fun q hq => (h.2 row hr).2 q hq⟩⟩

structure MOk (m b : Nat) (st : MS) : Prop where
  len : st.cols.length = st.sets.length
  le : st.cols.length ≤ b
  cell : st.cell.length = b
  cols : ∀ c ∈ st.cols, c < m
  places : ∀ p ∈ st.cell, p < st.cols.length
theorem mNew_ok {next : List (List Int)} {cols : List Nat} {sets : List (BitVec 256)} {f m b : Nat} (h1 : cols.length = sets.length) (h2 : cols.length ≤ b) (h3 : ∀ c ∈ cols, c < m) (hf : f < m) :
    (mNew next cols sets f).1.length = (mNew next cols sets f).2.1.length ∧ (mNew next cols sets f).1.length ≤ b + 1 ∧ (∀ c ∈ (mNew next cols sets f).1, c < m) ∧ (mNew next cols sets f).2.2 < (mNew next cols sets f).1.length ∧ cols.length ≤ (mNew next cols sets f).1.length := by
  unfold mNew
  split
  · rename_i i hi
    have hlt : i < cols.length := by
      have := List.findIdx?_eq_some_iff_findIdx_eq.1 hi
      exact this.1
    exact ⟨h1, Nat.le_succ_of_le h2, h3, hlt, Nat.le_refl _⟩
  · refine ⟨by simp [h1], by simpa using h2, ?_, by simp, by simp⟩
    intro c hc
    rcases List.mem_append.1 hc with h | h
    · exact h3 c h
    · rw [List.mem_singleton] at h; omega
theorem mRun_ok {next : List (List Int)} {cells : List (BitVec 256)} {sp : Nat → BitVec 256} (hc : ∀ b, b < 256 → cellOf cells b < cells.length) : ∀ b, b ≤ 256 → MOk cells.length b (mRun next cells sp b)
  | 0, _ => ⟨rfl, Nat.le_refl _, rfl, (fun c h => by cases h), (fun p h => by cases h)⟩
  | b + 1, hb => by
    have ih := mRun_ok (next := next) (sp := sp) hc b (by omega)
    have h := mNew_ok (next := next) ih.len ih.le ih.cols (hc b (by omega))
    unfold mRun mStep
    refine ⟨?_, h.2.1, ?_, h.2.2.1, ?_⟩
    · simp only [List.length_set]; exact h.1
    · simp [ih.cell]
    · intro p hp
      simp only [List.mem_append, List.mem_singleton] at hp
      rcases hp with hp | rfl
      · exact Nat.lt_of_lt_of_le (ih.places p hp) h.2.2.2.2
      · exact h.2.2.2.1

end Go.Proofs.YthomdogheamfpaaDoor
/- nfa.ways, nfa.settle: the walks. -/
set_option linter.unusedVariables false
set_option linter.unusedSimpArgs false
set_option maxRecDepth 100000
namespace Go.VC
/-- What a call has left as a piece. -/
theorem StB.addSt {B : Nat → Prop} {H0 H H' : Heap} {ps : List Pc} {p : Pc} (st : StB B H0 H ps) (st' : St H H' [p]) : StB B H0 H' (ps ++ [p]) :=
  st.add st'.old p (st'.at_ 0 rfl) fun k hk => ⟨st'.ge 0 rfl hk, (st'.in_ 0 rfl hk).2⟩
end Go.VC
namespace Go.Proofs.YthomdogheamfpaaDoor
open Go.VC
theorem mapEd : MapTW Tryd.prog 155 3 56 (.slice none 0 0) := ⟨rfl, rfl⟩
/-- The edges that leave q. -/
def outP (a : NfM) (q : Int) (e : EdM) : Bool := a.has e.fr && a.has e.to && decide (e.fr = q)
def outTo (a : NfM) (k : Nat) (q : Int) : List EdM := (a.edges.take k).filter (outP a q)
def outE (a : NfM) (q : Int) : List EdM := a.edges.filter (outP a q)
theorem outTo_all (a : NfM) : outTo a a.edges.length = outE a := by funext q; unfold outTo outE; rw [List.take_length]
theorem outTo_len (a : NfM) (k : Nat) (q : Int) : (outTo a k q).length ≤ k := Nat.le_trans (List.length_filter_le _ _) (List.length_take_le _ _)
theorem outTo_yes {a : NfM} {k : Nat} {e : EdM} (he : a.edges[k]? = some e) (h1 : a.has e.fr = true) (h2 : a.has e.to = true) : upd (outTo a k) e.fr (outTo a k e.fr ++ [e]) = outTo a (k + 1) := by
  funext q
  unfold outTo
  rw [take_succ_snoc he, List.filter_append]
  by_cases hq : q = e.fr
  · subst hq
    rw [upd_self]
    simp [outP, h1, h2]
  · rw [upd_ne hq]
    simp [outP, h1, h2, Ne.symm hq]
theorem outTo_no {a : NfM} {k : Nat} {e : EdM} (he : a.edges[k]? = some e) (h : (a.has e.fr && a.has e.to) = false) : outTo a k = outTo a (k + 1) := by
  funext q
  unfold outTo
  rw [take_succ_snoc he, List.filter_append]
  simp [outP, h]
theorem outE_mem {a : NfM} {q : Int} {e : EdM} : e ∈ outE a q ↔ e ∈ a.edges ∧ a.has e.fr = true ∧ a.has e.to = true ∧ e.fr = q := by
  unfold outE outP
  simp [List.mem_filter, and_assoc]
set_option maxHeartbeats 4000000 in
theorem ways_c {S : Nat → Prop} {H : Heap} {v : Value} {a : NfM} (hS : ∀ k, S k → k < H.size) (h : NfV S H v a) :
    FnOk Tryd.prog 82 #[v] H fun r H' => ∃ mb m, r = .map (some mb) ∧ St H H' [pMQ anyK kI tEd 75 mb m (outE a)] := by
  have hr := h.1
  have hl := h.2.1
  refine FnOk.of_vc Tryd.func82 rfl (Tryd.call82 _) ?_
  (conv => whnf); refine nf_box h fun ea ec he h1 => ?_
  subst he
  intro p H1 hp hs1 hb1 ha1
  have st1 := (St.nil H).box hp hs1 hb1 ha1
  (conv => whnf); refine mmakeW (Ok := anyK) (enc := kI) fun mb H2 hb2 hs2 hm2 ha2 => ?_
  have st2 := (st1.mapNewW hb2 hs2 hm2 ha2).mqNew (T := tEd) (e := 75) 1 rfl
  (conv => whnf); refine fa fl58_3 ?_
  (conv => whnf); refine ld1 (v := .slice ea a.edges.length ec) ct56 (by rw [(st2.blk 0 rfl).cell]; rfl) trivial ?_
  (conv => whnf)
  refine VLoop.mk [10] (fun k : Nat => [.int .i64 (k : Int)]) (fun k H5 => k ≤ a.edges.length ∧ ∃ m, St H H5 [pB 58 p (nfL a (.slice ea a.edges.length ec)), pMQ anyK kI tEd 75 mb m (outTo a k)]) (fun k _ => a.edges.length - k) ?_ ?_
  · (conv => whnf)
    exact ⟨0, rfl, Nat.zero_le _, _, st2⟩
  · rintro k H5 junk ⟨hk, m, st⟩
    (conv => whnf); refine VIte.mk (fun hz => ?_) (fun hz => ?_) <;> simp only [decide_eq_true_eq, decide_eq_false_iff_not] at hz
    · obtain ⟨e, he⟩ := get_some (l := a.edges) (k := k) (by omega)
      have hlen := outTo_len a k e.fr
      (conv => whnf); refine VSeq.run ?_
      (conv => whnf); refine ixr (i := k) sl56 (h1.frame (st.old.mono hS)) he rfl ?_
      rintro b6 o6 c6 hS6 hc6 ⟨rfl, hok⟩
      (conv => whnf); refine ldN (cs := edL e) ag75 hc6 trivial ?_
      (conv => whnf); refine valloc _ [.int .i64 0, .int .i64 0, .bool false, .int .u64 0, .int .u64 0, .int .u64 0, .int .u64 0] edge_z rfl ?_
      intro x H6 hx hs6 hb6 ha6
      have st6 := st.box hx hs6 hb6 ha6
      (conv => whnf); refine stNB (cs := edL e) st6 2 rfl rfl (Nat.le_refl _) rfl fun H7 st7 => ?_
      rw [splice_all (show (edL e).length = 7 from rfl)] at st7
      have hbx := st7.blk 2 rfl
      have h17 := h1.frame (st7.old.mono hS)
      (conv => whnf); refine nf_load hr hl (st7.blk 0 rfl) ag58 trivial h17 fun v8 hv8 => ?_
      (conv => whnf); refine fa fl75_0 ?_
      (conv => whnf); refine ld1 (v := .int .i64 e.fr) ct3 (by rw [hbx.cell]; rfl) trivial ?_
      (conv => whnf); refine pures (has_p hv8) fun H8 ha8 => ?_
      have st8 := st7.call ha8
      have skip : ∀ {H' : Heap}, (a.has e.fr && a.has e.to) = false → St H H' [pB 58 p (nfL a (.slice ea a.edges.length ec)), pMQ anyK kI tEd 75 mb m (outTo a k), pB 75 x (edL e)] →
          ∃ y : Nat, [Value.int .i64 ((k : Int) + 1)] = [.int .i64 (y : Int)] ∧ (y ≤ a.edges.length ∧ ∃ m, St H H' [pB 58 p (nfL a (.slice ea a.edges.length ec)), pMQ anyK kI tEd 75 mb m (outTo a y)]) ∧ a.edges.length - y < a.edges.length - k := fun hno st' =>
        ⟨k + 1, by simp, ⟨by omega, m, by rw [← outTo_no he hno]; exact st'.pick [0, 1] (by decide)⟩, by omega⟩
      cases hfr : a.has e.fr with
      | false =>
        (conv => whnf); rw [w64 (x := (k : Int) + 1) (by omega) (by omega)]
        exact ⟨rfl, skip (by rw [hfr]; rfl) st8⟩
      | true =>
        have hb8 := st8.blk 2 rfl
        have h18 := h1.frame (st8.old.mono hS)
        (conv => whnf); refine nf_load hr hl (st8.blk 0 rfl) ag58 trivial h18 fun v9 hv9 => ?_
        (conv => whnf); refine fa fl75_1 ?_
        (conv => whnf); refine ld1 (v := .int .i64 e.to) ct3 (by rw [hb8.cell]; rfl) trivial ?_
        (conv => whnf); refine pures (has_p hv9) fun H9 ha9 => ?_
        have st9 := st8.call ha9
        cases hto : a.has e.to with
        | false =>
          (conv => whnf); rw [w64 (x := (k : Int) + 1) (by omega) (by omega)]
          exact ⟨rfl, skip (by rw [hfr, hto]; rfl) st9⟩
        | true =>
          have hb9 := st9.blk 2 rfl
          obtain ⟨-, -, -, hself⟩ := st9.at_ 1 rfl
          have hbl : x < H9.size ∧ ¬ slB (slAt m e.fr) x := ⟨(st9.in_ 2 rfl rfl).2, fun hs => st9.apart2 (i := 1) (j := 2) rfl rfl (by decide) x (.inr ⟨e.fr, hs⟩) rfl⟩
          (conv => whnf); refine VDraw.heldZ (fun k => k < H9.size ∧ ¬ slB (slAt m e.fr) k) [10] (sq [0,1,2,3,4,5,6,7] (.f 8 (.f 9 (.f 10 .e)))) rfl (by kernel_rfl) ?_
          (conv => whnf); refine fa fl75_0 ?_
          (conv => whnf); refine ld1 (v := .int .i64 e.fr) ct3 (by rw [hb9.cell]; rfl) hbl ?_
          (conv => whnf); refine fa fl75_0 ?_
          (conv => whnf); refine ld1 (v := .int .i64 e.fr) ct3 (by rw [hb9.cell]; rfl) hbl ?_
          (conv => whnf); refine mlookW mapEd keyIW trivial (st9.mqMap 1 rfl) ⟨(st9.in_ 1 rfl (.inl rfl)).2, hself e.fr⟩ ?_
          (conv => whnf); refine ldN (cs := edL e) ag75 (hb9.cells fun j v hv => by rw [Nat.zero_add]; exact hv) hbl ?_
          (conv => whnf); refine vbuild1 sl56 (edL e) rfl rfl (by decide) (by decide) ?_
          intro y H10 hy hs10 hb10 ha10
          refine ⟨ha10.mono fun k hk => by have := hk.1; omega, ?_⟩
          have st10 := (st9.skip hy ha10).mqOut 1 rfl e.fr
          (conv => whnf); refine appQo (ys := [e]) st10 1 sl56 rfl (hb10.cells (o := 0) (cs := edL e) fun j v hv => by rw [Nat.zero_add]; exact hv) (Ty.reps_one ⟨rfl, hok⟩) rfl (fun u hu => List.all_eq_true.1 (ed_ones e) u hu) (by simp; unfold maxLen; omega) (by simp; omega) fun v11 H11 st11 ha11 => ?_
          refine ⟨(ha10.mono fun k hk => by have := hk.1; omega).trans (ha11.mono fun k hk => ⟨by have := hk.1; omega, hk.2⟩), ?_⟩
          (conv => whnf); refine mputQo st11 1 mapEd keyIW trivial rfl fun m' H12 st12 => ?_
          rw [outTo_yes he hfr hto] at st12
          (conv => whnf); rw [w64 (x := (k : Int) + 1) (by omega) (by omega)]
          exact ⟨rfl, k + 1, by simp, ⟨by omega, m', st12.pick [0, 1] (by decide)⟩, by omega⟩
    · obtain rfl : k = a.edges.length := by omega
      rw [outTo_all] at st
      (conv => whnf)
      exact ⟨mb, m, rfl, st.pick [1] (by decide)⟩
/-! ### settle -/
/-- The map of the edges, to be read. -/
structure FromV (B : Nat → Prop) (H0 : Heap) (mb : Nat) (a : NfM) : Prop where
  ex : ∃ m, MapW anyK kI H0 mb m ∧ ∀ q, ∃ ad cap, slAt m q = .slice ad (outE a q).length cap ∧ SlD tEd B H0 ad cap (outE a q)
  at_ : B mb
theorem FromV.ofSt {B : Nat → Prop} {H0 H : Heap} {ps : List Pc} {mb : Nat} {m : Int → Option Value} {a : NfM} (st : StB B H0 H ps) (i : Nat) (hp : ps[i]? = some (pMQ anyK kI tEd 75 mb m (outE a))) : FromV (Old H) H mb a :=
  ⟨⟨m, st.mqMap i hp, fun q => st.mqView i hp q⟩, (st.in_ i hp (.inl rfl)).2⟩
structure StlR (a : NfM) (X : PS) (q : Int) (Y : PS) : Prop where
  sub : ∀ p, X p → Y p
  own : Y q
  new : ∀ p, Y p → X p ∨ Sils a q p
  shut : ∀ p, Y p → ¬ X p → ∀ e ∈ a.edges, e.sil = true → e.fr = p → a.has e.to = true → Y e.to
open Classical in
noncomputable def mss (X : PS) : Nat := (lstS fun p => ¬ X p).length
theorem flt_le {p q : Int → Bool} : ∀ (l : List Int), (∀ x, p x = true → q x = true) → (l.filter p).length ≤ (l.filter q).length
  | [], _ => Nat.le_refl _
  | x :: l, h => by
    have ih := flt_le l h
    cases hp : p x with
    | true => rw [List.filter_cons_of_pos hp, List.filter_cons_of_pos (h x hp), List.length_cons, List.length_cons]; omega
    | false =>
      rw [List.filter_cons_of_neg (by rw [hp]; decide)]
      cases hq : q x with
      | true => rw [List.filter_cons_of_pos hq, List.length_cons]; omega
      | false => rw [List.filter_cons_of_neg (by rw [hq]; decide)]; exact ih
theorem flt_lt {p q : Int → Bool} {y : Int} : ∀ (l : List Int), (∀ x, p x = true → q x = true) → y ∈ l → p y = false → q y = true → (l.filter p).length < (l.filter q).length
  | [], _, hy, _, _ => by cases hy
  | x :: l, h, hy, h1, h2 => by
    have le := flt_le l h
    by_cases hxy : x = y
    · subst hxy
      rw [List.filter_cons_of_neg (by rw [h1]; decide), List.filter_cons_of_pos h2, List.length_cons]; omega
    · have hyl : y ∈ l := by
        rcases List.mem_cons.1 hy with e | e
        · exact absurd e.symm hxy
        · exact e
      have ih := flt_lt l h hyl h1 h2
      cases hp : p x with
      | true => rw [List.filter_cons_of_pos hp, List.filter_cons_of_pos (h x hp), List.length_cons, List.length_cons]; omega
      | false =>
        rw [List.filter_cons_of_neg (by rw [hp]; decide)]
        cases hq : q x with
        | true => rw [List.filter_cons_of_pos hq, List.length_cons]; omega
        | false => rw [List.filter_cons_of_neg (by rw [hq]; decide)]; exact ih
theorem mss_mono {X Y : PS} (h : ∀ p, X p → Y p) : mss Y ≤ mss X := by
  unfold mss lstS
  refine flt_le _ fun p hp => ?_
  simp only [decide_eq_true_eq] at hp ⊢
  exact fun hx => hp (h p hx)
theorem mss_lt {X Y : PS} {q : Int} (h : ∀ p, X p → Y p) (h0 : 0 ≤ q) (h1 : q < 65536) (hx : ¬ X q) (hy : Y q) : mss Y < mss X := by
  unfold mss lstS
  refine flt_lt (y := q) _ (fun p hp => ?_) (List.mem_map.2 ⟨q.toNat, List.mem_range.2 (by omega), by omega⟩) ?_ ?_
  · simp only [decide_eq_true_eq] at hp ⊢
    exact fun hx => hp (h p hx)
  · simp [hy]
  · simp [hx]
theorem dom_put {mm : Int → Option Value} {q : Int} {v : Value} (p : Int) : Dom (put mm q (some v)) p ↔ Dom mm p ∨ p = q := by
  unfold Dom
  by_cases h : p = q
  · subst h; rw [put_self]; simp
  · rw [put_ne h]; simp [h]
set_option maxHeartbeats 4000000 in
theorem settle_c {B : Nat → Prop} {H0 : Heap} {a : NfM} {mb : Nat} (hf : FromV B H0 mb a) (hst : a.st ≤ 65536) :
    ∀ (n : Nat) {H : Heap} {rest : List Pc} {nb : Nat} {mm : Int → Option Value} {q : Int} (st : StB B H0 H (pMW anyK kI nb mm :: rest)), a.has q = true → mss (Dom mm) < n →
      FnOk Tryd.prog 84 #[.map (some mb), .map (some nb), .int .i64 q] H fun _ H' => ∃ mm', StB B H0 H' (pMW anyK kI nb mm' :: rest) ∧ StlR a (Dom mm) q (Dom mm') := fun n => by
  induction n with
  | zero => intro H rest nb mm q st hq hn; omega
  | succ n ih =>
    intro H rest nb mm q st hq hn
    have hqr := NfM.has_iff.1 hq
    obtain ⟨m, hmap, hview⟩ := hf.ex
    obtain ⟨ad, cap, hsl, hd⟩ := hview q
    refine FnOk.of_vc Tryd.func84 rfl (Tryd.call84 _) ?_
    (conv => whnf); refine mlookOkW (a := q) mapII keyIW trivial (st.mapW 0 rfl) trivial ?_
    cases hmq : (mm q).isSome with
    | true =>
      (conv => whnf)
      exact ⟨mm, st, fun p hp => hp, hmq, fun p hp => .inl hp, fun p hp hn => absurd hp hn⟩
    | false =>
      have hnq : ¬ Dom mm q := by unfold Dom; rw [hmq]; decide
      (conv => whnf); refine mputPW (a := q) st 0 mapII keyIW trivial rfl rfl fun H1 st1 => ?_
      (conv => whnf); refine mlookW (a := q) (m := m) mapEd keyIW trivial (hmap.agr st1.old hf.at_) trivial ?_
      have e1 : (m q).getD (.slice none 0 0) = .slice ad (outE a q).length cap := hsl
      rw [e1]
      (conv => whnf)
      refine VLoop.mk [23] (fun k : Nat => [.int .i64 (k : Int)]) (fun k H5 => k ≤ (outE a q).length ∧ ∃ my, StB B H0 H5 (pMW anyK kI nb my :: rest) ∧ (∀ p, Dom mm p → Dom my p) ∧ Dom my q ∧ (∀ p, Dom my p → Dom mm p ∨ Sils a q p) ∧
        (∀ p, Dom my p → ¬ Dom mm p → p ≠ q → ∀ e ∈ a.edges, e.sil = true → e.fr = p → a.has e.to = true → Dom my e.to) ∧ ∀ e ∈ (outE a q).take k, e.sil = true → Dom my e.to) (fun k _ => (outE a q).length - k) ?_ ?_
      · (conv => whnf)
        refine ⟨0, rfl, Nat.zero_le _, _, st1, fun p hp => (dom_put p).2 (.inl hp), (dom_put q).2 (.inr rfl), fun p hp => ?_, fun p hp hno hpq => ?_, fun e he => by cases he⟩
        · rcases (dom_put p).1 hp with h | rfl
          · exact .inl h
          · exact .inr (.refl _)
        · rcases (dom_put p).1 hp with h | h
          · exact absurd h hno
          · exact absurd h hpq
      · rintro k H5 junk ⟨hk, my, st5, hsub, hown, hnew, hshut, hdone⟩
        have hd5 := hd.frame st5.old
        (conv => whnf); refine VIte.mk (fun hz => ?_) (fun hz => ?_) <;> simp only [decide_eq_true_eq, decide_eq_false_iff_not] at hz
        · obtain ⟨e, he⟩ := get_some (l := outE a q) (k := k) (by omega)
          obtain ⟨he1, he2, he3, he4⟩ := outE_mem.1 (List.mem_of_getElem? he)
          have hlen := hd5.le
          unfold maxLen at hlen
          (conv => whnf); refine VSeq.run ?_
          (conv => whnf); refine ixr (i := k) sl56 hd5 he rfl ?_
          rintro b6 o6 c6 hS6 hc6 ⟨rfl, hok⟩
          (conv => whnf); refine ldN (cs := edL e) ag75 hc6 trivial ?_
          (conv => whnf); refine valloc _ [.int .i64 0, .int .i64 0, .bool false, .int .u64 0, .int .u64 0, .int .u64 0, .int .u64 0] edge_z rfl ?_
          intro x H6 hx hs6 hb6 ha6
          have st6 : StB B H0 H6 (pB 75 x _ :: pMW anyK kI nb my :: rest) := (st5.box hx hs6 hb6 ha6).perm (List.perm_append_singleton _ _)
          (conv => whnf); refine stNB (cs := edL e) st6 0 rfl rfl (Nat.le_refl _) rfl fun H7 st7 => ?_
          rw [splice_all (show (edL e).length = 7 from rfl)] at st7
          have hbx := st7.blk 0 rfl
          have st7' : StB B H0 H7 (pMW anyK kI nb my :: rest) := st7.sub (List.sublist_cons_self _ _)
          (conv => whnf); refine fa fl75_2 ?_
          (conv => whnf); refine ld1 (v := .bool e.sil) ct4 (by rw [hbx.cell]; rfl) trivial ?_
          cases hes : e.sil with
          | false =>
            (conv => whnf); rw [w64 (x := (k : Int) + 1) (by omega) (by omega)]
            refine ⟨rfl, k + 1, by simp, ⟨by omega, my, st7', hsub, hown, hnew, hshut, fun e' he' hs' => ?_⟩, by omega⟩
            rw [take_succ_snoc he, List.mem_append, List.mem_singleton] at he'
            rcases he' with he' | rfl
            · exact hdone e' he' hs'
            · rw [hes] at hs'; cases hs'
          | true =>
            (conv => whnf); refine fa fl75_1 ?_
            (conv => whnf); refine ld1 (v := .int .i64 e.to) ct3 (by rw [hbx.cell]; rfl) trivial ?_
            have hlt : mss (Dom my) < n := by
              have := mss_lt hsub hqr.1 (by omega) hnq hown
              omega
            (conv => whnf); refine VCall.mk (ih st7' he3 hlt) ?_
            rintro _ H8 ⟨mz, st8, hz1⟩
            (conv => whnf); rw [w64 (x := (k : Int) + 1) (by omega) (by omega)]
            have hstep : Sils a q e.to := by
              have h0 : Sils a q e.fr := by rw [he4]; exact .refl q
              exact .step h0 he1 hes he3
            refine ⟨rfl, k + 1, by simp, ⟨by omega, mz, st8, fun p hp => hz1.sub p (hsub p hp), hz1.sub q hown, fun p hp => ?_, fun p hp hno hpq => ?_, fun e' he' hs' => ?_⟩, by omega⟩
            · rcases hz1.new p hp with h | h
              · exact hnew p h
              · exact .inr (hstep.trans h)
            · by_cases hy : Dom my p
              · exact fun e' h1 h2 h3 h4 => hz1.sub _ (hshut p hy hno hpq e' h1 h2 h3 h4)
              · exact hz1.shut p hp hy
            · rw [take_succ_snoc he, List.mem_append, List.mem_singleton] at he'
              rcases he' with he' | rfl
              · exact hz1.sub _ (hdone e' he' hs')
              · exact hz1.own
        · obtain rfl : k = (outE a q).length := by omega
          rw [List.take_length] at hdone
          (conv => whnf)
          refine ⟨my, st5, hsub, hown, hnew, fun p hp hno => ?_⟩
          by_cases hpq : p = q
          · subst hpq
            exact fun e h1 h2 h3 h4 => hdone e (outE_mem.2 ⟨h1, by rw [h3]; exact hq, h4, h3⟩) h2
          · exact hshut p hp hno hpq
end Go.Proofs.YthomdogheamfpaaDoor
/- nfa.Reach, nfa.Accepts: the walks. -/
set_option linter.unusedVariables false
set_option linter.unusedSimpArgs false
set_option maxRecDepth 100000
namespace Go.Proofs.YthomdogheamfpaaDoor
open Go.VC
def byN (s : ByteArray) : List Nat := s.data.toList.map UInt8.toNat
theorem byN_len (s : ByteArray) : (byN s).length = s.size := by unfold byN; rw [List.length_map]; exact Array.length_toList
theorem byN_get {s : ByteArray} {i : Nat} {b : UInt8} (h : s.data[i]? = some b) : (byN s)[i]? = some b.toNat := by
  unfold byN
  rw [List.getElem?_map, Array.getElem?_toList, h]; rfl
theorem getB {s : ByteArray} {k : Nat} (h : k < s.size) : ∃ b, s.data[k]? = some b := ⟨s.data[k]'h, Array.getElem?_eq_getElem h⟩
theorem stl_shut {a : NfM} {X Y : PS} {q : Int} (h : StlR a X q Y) (hX : Shut_ a X) : Shut_ a Y := fun e h1 h2 h3 h4 => by
  by_cases hx : X e.fr
  · exact h.sub _ (hX e h1 h2 h3 hx)
  · exact h.shut _ h4 hx e h1 h2 rfl h3
theorem keys_v {B : Nat → Prop} {H0 H : Heap} {nb : Nat} {ps : List Pc} {K : Value → Heap → Prop} (st : StB B H0 H ps)
    (k : ∀ bx H', StB B H0 H' (ps ++ [pB 88 bx [.map (some nb)]]) → K (.func (.func 113) #[] #[.pointer (some ⟨bx, 0, none⟩)]) H') :
    VCall Tryd.prog 86 #[.map (some nb)] H K := by
  refine VCall.mk (R := fun v H' => ∃ bx, v = .func (.func 113) #[] #[.pointer (some ⟨bx, 0, none⟩)] ∧ StB B H0 H' (ps ++ [pB 88 bx [.map (some nb)]])) ?_ ?_
  · refine FnOk.of_vc Tryd.func86 rfl (Tryd.call86 _) ?_
    (conv => whnf); refine vbox [.map (some nb)] rfl ?_
    intro b1 H1 hb1 hs1 hk1 ha1
    have st1 := st.box hb1 hs1 hk1 ha1
    (conv => whnf)
    exact ⟨b1, rfl, st1⟩
  · rintro _ H' ⟨b1, rfl, st'⟩
    exact k b1 H' st'
set_option maxHeartbeats 8000000 in
theorem reach_n {S : Nat → Prop} {H : Heap} {v : Value} {a : NfM} {s : ByteArray} (hS : ∀ k, S k → k < H.size) (h : NfV S H v a) (hs : s.size ≤ maxLen) :
    FnOk Tryd.prog 37 #[v, .string s] H fun r H' => Agr (Old H) H H' ∧ ∃ ra rc, r = .slice ra (rchL a (byN s)).length rc ∧ SlO tIk none_ H' H.size 3 (.slice ra (rchL a (byN s)).length rc) (rchL a (byN s)) := by
  have hr := h.1
  have hl := h.2.1
  unfold maxLen at hs
  refine FnOk.of_vc Tryd.func37 rfl (Tryd.call37 _) ?_
  (conv => whnf); refine nf_box h fun ea ec he h1 => ?_
  subst he
  intro p H1 hp hs1 hb1 ha1
  have st1 := (St.nil H).box hp hs1 hb1 ha1
  (conv => whnf); refine nf_load hr hl (st1.blk 0 rfl) ag58 trivial (h1.frame (st1.old.mono hS)) fun v1 hv1 => ?_
  (conv => whnf); refine VCall.mk (ways_c (fun k hk => st1.up (hS k hk)) hv1) ?_
  rintro _ H2 ⟨mb, m0, rfl, stw⟩
  have st2 := st1.addSt stw
  have hf : FromV (Old H2) H2 mb a := FromV.ofSt st2 1 rfl
  have h02 := st2.old
  have hb2 := st2.blk 0 rfl
  have hbp : p < H2.size := hb2.lt
  have h12 := h1.frame (h02.mono hS)
  have hS2 : ∀ k, S k → k < H2.size := fun k hk => old_lt h02 (hS k hk)
  have hcl : ∀ {X : PS} {q : Int}, (∀ q, X q → a.has q = true) → X q → 0 ≤ q ∧ q < 65536 := fun hX hq => has_rng hX _ hq
  (conv => whnf); refine mmakeW (Ok := anyK) (enc := kI) fun nb H3 hb3 hs3 hm3 ha3 => ?_
  have st3 : St H2 H3 [pMW anyK kI nb fun _ => none] := (St.nil H2).mapNewW hb3 hs3 hm3 ha3
  have hb3' := hb2.agr st3.old hbp
  (conv => whnf); refine VSeq.cut (α := Nat) [6] (fun nb => [.map (some nb)]) (fun nb H4 => ∃ mm, St H2 H4 [pMW anyK kI nb mm] ∧ ∀ q, Dom mm q ↔ begS a q) ?_ fun nb H4 junk4 hI4 => ?_
  · (conv => whnf); refine nf_load hr hl hb3' ag58 trivial (h12.frame (st3.old.mono hS2)) fun v4 hv4 => ?_
    (conv => whnf); refine fa fl58_1 ?_
    (conv => whnf); refine ld1 (v := .int .i64 a.start) ct3 (by rw [hb3'.cell]; rfl) trivial ?_
    (conv => whnf); refine pures (has_p hv4) fun H4 ha4 => ?_
    have st4 := st3.call ha4
    have hb4 := hb2.agr st4.old hbp
    cases hst : a.has a.start with
    | false =>
      (conv => whnf)
      refine ⟨rfl, nb, rfl, _, st4, fun q => ⟨fun hq => (by cases hq), fun hq => ?_⟩⟩
      obtain ⟨r, ⟨-, h2⟩, -⟩ := hq
      rw [hst] at h2; cases h2
    | true =>
      (conv => whnf); refine fa fl58_1 ?_
      (conv => whnf); refine ld1 (v := .int .i64 a.start) ct3 (by rw [hb4.cell]; rfl) trivial ?_
      (conv => whnf); refine VCall.mk (settle_c hf (NfM.has_iff.1 hst).2.2 _ st4 hst (Nat.lt_succ_self _)) ?_
      rintro _ H5 ⟨mm, st5, hstl⟩
      (conv => whnf)
      refine ⟨rfl, nb, rfl, mm, st5, fun q => ⟨fun hq => ?_, fun hq => ?_⟩⟩
      · rcases hstl.new q hq with h | h
        · cases h
        · exact ⟨a.start, ⟨rfl, hst⟩, h⟩
      · exact clS_least (Y := Dom mm) (fun r hr => by rw [hr.1]; exact hstl.own) (stl_shut hstl fun e _ _ _ h => by cases h) q hq
  obtain ⟨mm4, st4, hmm4⟩ := hI4
  (conv => whnf)
  refine VLoop.mk [6, 26] (fun x : Nat × Nat => match x with | (i, nb) => [.map (some nb), .int .i64 (i : Int)]) (fun x H5 => x.1 ≤ s.size ∧ ∃ mm, St H2 H5 [pMW anyK kI x.2 mm] ∧ ∀ q, Dom mm q ↔ rchS a ((byN s).take x.1) q) (fun x _ => s.size - x.1) ?_ ?_
  · (conv => whnf)
    exact ⟨(0, nb), rfl, Nat.zero_le _, mm4, st4, hmm4⟩
  · rintro ⟨i, nb5⟩ H5 junk5 ⟨hi, mm5, st5, hmm5⟩
    simp only at hi st5 hmm5
    (conv => whnf); refine VIte.mk (fun hz => ?_) (fun hz => ?_) <;> simp only [decide_eq_true_eq, decide_eq_false_iff_not] at hz
    · obtain ⟨b, hb⟩ := getB (s := s) (k := i) (by omega)
      have hX : ∀ q, Dom mm5 q → a.has q = true := fun q hq => rchS_has a _ q ((hmm5 q).1 hq)
      (conv => whnf); refine mmakeW (Ok := anyK) (enc := kI) fun nx H6 hb6 hs6 hm6 ha6 => ?_
      have st6 := st5.mapNewW hb6 hs6 hm6 ha6
      (conv => whnf); refine mrangeP st6 0 mapII rfl fun r n H7 st7 => ?_
      (conv => whnf)
      refine VLoop.mk [] (fun _ : Nat => []) (fun n H8 => ∃ D last my, St H2 H8 [pIW anyK kI nb5 r mm5 D last n, pMW anyK kI nx my] ∧ (∀ q, D q → Dom mm5 q) ∧ (∀ q, Dom my q → goS a (Dom mm5) b.toNat q) ∧ Shut_ a (Dom my) ∧
        ∀ q, D q → ∀ e ∈ outE a q, e.sil = false → e.set.getLsbD b.toNat = true → Dom my e.to) (fun n _ => n) ?_ ?_
      · (conv => whnf)
        exact ⟨n, rfl, _, none, _, st7, fun q h => h.elim, (fun q h => by cases h), (fun e _ _ _ h => by cases h), fun q h => h.elim⟩
      · rintro n8 H8 junk8 ⟨D, last, my, st8, hD, hgo, hsh, hall⟩
        (conv => whnf); refine mnextP st8 0 keyIW.inj rfl (fun hend => ?_) fun q vq H9 n9 hq hnD hlt st9 => ?_
        · (conv => whnf); rw [w64 (x := (i : Int) + 1) (by omega) (by omega)]
          refine ⟨rfl, (i + 1, nx), by simp, ⟨by simp only; omega, my, (st8.pick [1] (by decide)), fun q => ?_⟩, by simp only; omega⟩
          simp only
          rw [take_succ_snoc (byN_get hb), rchS_snoc, ← goS_ext hmm5]
          refine ⟨hgo q, fun hq => clS_least (Y := Dom my) (fun t ht => ?_) hsh q hq⟩
          obtain ⟨e, h1, h2, h3, h4, h5, rfl⟩ := ht
          exact hall e.fr (hend _ h4) e (outE_mem.2 ⟨h1, hX _ h4, h5, rfl⟩) h2 h3
        · have hdq : Dom mm5 q := by unfold Dom; rw [hq]; rfl
          obtain ⟨m, hmap, hview⟩ := hf.ex
          obtain ⟨ad, cap, hsl, hd⟩ := hview q
          (conv => whnf); refine mhere (st9.iterW 0 rfl) keyIW.inj hq ?_
          (conv => whnf); refine mlookW (a := q) (m := m) mapEd keyIW trivial (hmap.agr st9.old hf.at_) trivial ?_
          have e1 : (m q).getD (.slice none 0 0) = .slice ad (outE a q).length cap := hsl
          rw [e1]
          (conv => whnf)
          refine VLoop.mk [40] (fun k : Nat => [.int .i64 (k : Int)]) (fun k H10 => k ≤ (outE a q).length ∧ ∃ my, St H2 H10 [pIW anyK kI nb5 r mm5 (fun x => D x ∨ x = q) (some q) n9, pMW anyK kI nx my] ∧ (∀ q, Dom my q → goS a (Dom mm5) b.toNat q) ∧ Shut_ a (Dom my) ∧
            (∀ q, D q → ∀ e ∈ outE a q, e.sil = false → e.set.getLsbD b.toNat = true → Dom my e.to) ∧ ∀ e ∈ (outE a q).take k, e.sil = false → e.set.getLsbD b.toNat = true → Dom my e.to) (fun k _ => (outE a q).length - k) ?_ ?_
          · (conv => whnf)
            exact ⟨0, rfl, Nat.zero_le _, my, st9, hgo, hsh, hall, fun e he => by cases he⟩
          · rintro k H10 junk10 ⟨hk, my, st10, hgo, hsh, hall, hdone⟩
            have hd10 := hd.frame st10.old
            (conv => whnf); refine VIte.mk (fun hz2 => ?_) (fun hz2 => ?_) <;> simp only [decide_eq_true_eq, decide_eq_false_iff_not] at hz2
            · obtain ⟨e, he⟩ := get_some (l := outE a q) (k := k) (by omega)
              obtain ⟨he1, he2, he3, he4⟩ := outE_mem.1 (List.mem_of_getElem? he)
              have hlen := hd10.le
              unfold maxLen at hlen
              (conv => whnf); refine VSeq.run ?_
              (conv => whnf); refine ixr (i := k) sl56 hd10 he rfl ?_
              rintro b6 o6 c6 hS6 hc6 ⟨rfl, hok⟩
              (conv => whnf); refine ldN (cs := edL e) ag75 hc6 trivial ?_
              (conv => whnf); refine valloc _ [.int .i64 0, .int .i64 0, .bool false, .int .u64 0, .int .u64 0, .int .u64 0, .int .u64 0] edge_z rfl ?_
              intro x H11 hx hs11 hb11 ha11
              have st11 := st10.box hx hs11 hb11 ha11
              (conv => whnf); refine stNB (cs := edL e) st11 2 rfl rfl (Nat.le_refl _) rfl fun H12 st12 => ?_
              rw [splice_all (show (edL e).length = 7 from rfl)] at st12
              have hbx := st12.blk 2 rfl
              have hxl := (st12.in_ 2 rfl rfl).2
              have fin : ∀ {H' : Heap} {mz : Int → Option Value}, St H2 H' [pIW anyK kI nb5 r mm5 (fun x => D x ∨ x = q) (some q) n9, pMW anyK kI nx mz] → (∀ q, Dom my q → Dom mz q) → (∀ q, Dom mz q → goS a (Dom mm5) b.toNat q) → Shut_ a (Dom mz) → (e.sil = false → e.set.getLsbD b.toNat = true → Dom mz e.to) →
                  ∃ y : Nat, [Value.int .i64 ((k : Int) + 1)] = [Value.int .i64 (y : Int)] ∧ (y ≤ (outE a q).length ∧ ∃ my, St H2 H' [pIW anyK kI nb5 r mm5 (fun x => D x ∨ x = q) (some q) n9, pMW anyK kI nx my] ∧ (∀ q, Dom my q → goS a (Dom mm5) b.toNat q) ∧ Shut_ a (Dom my) ∧
                    (∀ q, D q → ∀ e ∈ outE a q, e.sil = false → e.set.getLsbD b.toNat = true → Dom my e.to) ∧ ∀ e ∈ (outE a q).take y, e.sil = false → e.set.getLsbD b.toNat = true → Dom my e.to) ∧ (outE a q).length - y < (outE a q).length - k := fun {H' mz} t1 t2 t3 t4 t5 => by
                refine ⟨k + 1, by simp, ⟨by omega, mz, t1, t3, t4, fun q' h1 e' h2 h3 h4 => t2 _ (hall q' h1 e' h2 h3 h4), fun e' he' h3 h4 => ?_⟩, by omega⟩
                rw [take_succ_snoc he, List.mem_append, List.mem_singleton] at he'
                rcases he' with he' | rfl
                · exact t2 _ (hdone e' he' h3 h4)
                · exact t5 h3 h4
              have w1 : IntKind.wrap .i64 ((k : Int) + 1) = (k : Int) + 1 := w64 (by omega) (by omega)
              (conv => whnf); refine VDraw.quiet (Old H12) rfl (by kernel_rfl) ?_
              (conv => whnf); refine fa fl75_2 ?_
              (conv => whnf); refine ld1 (v := .bool e.sil) ct4 (by rw [hbx.cell]; rfl) hxl ?_
              cases hes : e.sil with
              | true =>
                (conv => whnf)
                intro H13 ha13
                have st13 := st12.call ha13
                (conv => whnf); rw [w1]
                exact ⟨rfl, fin (st13.pick [0, 1] (by decide)) (fun _ h => h) hgo hsh fun h => by rw [hes] at h; cases h⟩
              | false =>
                (conv => whnf); refine fa fl75_3 ?_
                (conv => whnf); refine ldN (cs := setL e.set) ag73 (hbx.cells fun j v hv => edL_set e j v hv) hxl ?_
                (conv => whnf); refine vidxs Tryd.underlying9 rfl hb ?_
                (conv => whnf); refine pureq (fun H' ha' => has_c e.set b.toNat (UInt8.toNat_lt b) H') ?_
                cases hbit : e.set.getLsbD b.toNat with
                | false =>
                  (conv => whnf)
                  intro H13 ha13
                  have st13 := st12.call ha13
                  (conv => whnf); rw [w1]
                  exact ⟨rfl, fin (st13.pick [0, 1] (by decide)) (fun _ h => h) hgo hsh fun _ h => by rw [hbit] at h; cases h⟩
                | true =>
                  (conv => whnf)
                  intro H13 ha13
                  have st13 := st12.call ha13
                  (conv => whnf); refine fa fl75_1 ?_
                  (conv => whnf); refine ld1 (v := .int .i64 e.to) ct3 (by rw [(st13.blk 2 rfl).cell]; rfl) trivial ?_
                  (conv => whnf); refine VCall.mk (settle_c hf (NfM.has_iff.1 he3).2.2 _ (st13.pick [1, 0] (by decide) : St H2 H13 [pMW anyK kI nx my, pIW anyK kI nb5 r mm5 (fun x => D x ∨ x = q) (some q) n9]) he3 (Nat.lt_succ_self _)) ?_
                  rintro _ H14 ⟨mz, st14, hstl⟩
                  (conv => whnf); rw [w1]
                  refine ⟨rfl, fin (st14.pick [1, 0] (by decide)) hstl.sub (fun t ht => ?_) (stl_shut hstl hsh) fun _ _ => hstl.own⟩
                  rcases hstl.new t ht with h | h
                  · exact hgo t h
                  · exact ⟨e.to, ⟨e, he1, hes, hbit, by rw [he4]; exact hdq, he3, rfl⟩, h⟩
            · obtain rfl : k = (outE a q).length := by omega
              rw [List.take_length] at hdone
              (conv => whnf)
              refine ⟨rfl, n9, rfl, ⟨_, _, my, st10, fun t ht => ?_, hgo, hsh, fun t ht => ?_⟩, hlt⟩
              · rcases ht with h | rfl
                · exact hD t h
                · exact hdq
              · rcases ht with h | rfl
                · exact hall t h
                · exact hdone
    · obtain rfl : i = s.size := by omega
      rw [List.take_of_length_le (by rw [byN_len]; exact Nat.le_refl _)] at hmm5
      have hX : ∀ q, Dom mm5 q → a.has q = true := fun q hq => rchS_has a _ q ((hmm5 q).1 hq)
      (conv => whnf); refine keys_v st5 fun bx H6 st6 => ?_
      (conv => whnf); refine VCall.mk (sortedKeys_c (fun q hq => has_rng hX q hq) st6) ?_
      rintro _ H7 ⟨ks, ra, rc, rfl, hsrt, hin, st7⟩
      (conv => whnf)
      have hks : ks = rchL a (byN s) := lstS_uniq (has_rng (rchS_has a (byN s))) hsrt fun q => (hin q).trans (hmm5 q)
      subst hks
      exact ⟨h02.trans (st7.old.mono fun k hk => old_lt h02 hk), ra, rc, rfl, (St.own st7 0 rfl).lower (old_size h02)⟩
end Go.Proofs.YthomdogheamfpaaDoor
/- strconv.AppendInt at base 10, by the kit's shelf (laid by its tool), as an operation on an own slice of bytes. -/
set_option linter.unusedVariables false
set_option linter.unusedSimpArgs false
set_option maxRecDepth 100000
namespace Go.VC
open Go.Lib Go.RowKit
abbrev powN : String := "internal/strconv.uint64pow10"
/-- The library's table of powers lies in memory. -/
def PowH (P : Program) (H : Heap) : Prop := ∀ w : World, w.heap = H → TabIs P w powN .u64 pow10Tab
theorem var_agr {P : Program} {w w' : World} {name : String} {cs : Array Value} (h : w.var? P name = some cs) (ha : Agr (Old w.heap) w.heap w'.heap) : w'.var? P name = some cs := by
  unfold World.var? at *
  cases hg : P.globalNamed name with
  | none => simp [hg] at h
  | some g =>
    simp only [hg, Option.bind_some] at h ⊢
    have hlt : g < w.heap.size := by
      rcases Nat.lt_or_ge g w.heap.size with h' | h'
      · exact h'
      · rw [Array.getElem?_eq_none h'] at h; simp at h
    rw [ha g hlt]
    exact h
theorem PowH.agr {P : Program} {H H' : Heap} (h : PowH P H) (ha : Agr (Old H) H H') : PowH P H' := by
  intro w hw
  subst hw
  have := h { w with heap := H } rfl
  exact var_agr (w := { w with heap := H }) (w' := w) this ha
/-- A function that puts an int's decimal text behind bytes. -/
structure AppInt (P : Program) (f : FuncId) (e : TypeId) : Prop where
  call : ∀ (args : Array Value) (w : World), (callFunc f args).run P w = .ok (.enter f args) w
  run_ : ∀ (B n : Nat) (i : Int) (sv : Value) (xs : List Value) (w : World), -9223372036854775808 ≤ i → i ≤ 9223372036854775807 → w.ownsRow B e 1 sv n xs → B ≤ w.heap.size → n + 21 ≤ 140737488355328 → TabBelow P B w powN .u64 pow10Tab →
    Calls P f #[sv, .int .i64 i, .int .i64 10] w fun e' w' => ∃ v', e' = .returned v' ∧ w'.ownsRow B e 1 v' (n + (itoa i).length) (xs ++ Go.Lib.byteCells (itoa i)) ∧ Below B w w' ∧ OthersKept e none w w'
abbrev tU8 : Ty Int := tInt .u8
/-- The digits as numbers. -/
def digL (i : Int) : List Int := (itoa i).map fun b => (b.toNat : Int)
theorem digL_len (i : Int) : (digL i).length = (itoa i).length := List.length_map _
theorem reps_u8 {S : Nat → Prop} {H : Heap} : ∀ {xs : List Int} {cs : List Value}, tU8.reps S H cs xs → cs = xs.map (Value.int .u8) ∧ ∀ x ∈ xs, inK .u8 x
  | [], _, h => by cases h; exact ⟨rfl, fun x hx => by cases hx⟩
  | x :: xs, _, h => by
    obtain ⟨c, r, rfl, ⟨rfl, h1⟩, h2⟩ := h
    obtain ⟨rfl, h3⟩ := reps_u8 h2
    refine ⟨rfl, fun y hy => ?_⟩
    rcases List.mem_cons.1 hy with rfl | hy
    · exact h1
    · exact h3 y hy
theorem u8_reps {S : Nat → Prop} {H : Heap} : ∀ {xs : List Int}, (∀ x ∈ xs, inK .u8 x) → tU8.reps S H (xs.map (Value.int .u8)) xs
  | [], _ => rfl
  | x :: xs, h => ⟨[.int .u8 x], xs.map (Value.int .u8), rfl, ⟨rfl, h x (by simp)⟩, u8_reps fun y hy => h y (by simp [hy])⟩
theorem digL_cells (i : Int) : Go.Lib.byteCells (itoa i) = (digL i).map (Value.int .u8) := by
  unfold Go.Lib.byteCells digL
  rw [List.map_map]
  rfl
theorem inU8b (b : UInt8) : inK .u8 (b.toNat : Int) := inU8 (UInt8.toNat_lt b)
theorem appI {P : Program} {f : FuncId} {H0 H : Heap} {e : TypeId} {a : Option Addr} {n cap : Nat} {xs : List Int} {i : Int} {K : Value → Heap → Prop} (hf : AppInt P f e) (st : St H0 H [pS tU8 e a n cap xs]) (hpow : PowH P H0) (h0 : -9223372036854775808 ≤ i) (h1 : i ≤ 9223372036854775807) (hn : xs.length + 21 ≤ 140737488355328)
    (k : ∀ a' cap' H', St H0 H' [pS tU8 e a' (xs ++ digL i).length cap' (xs ++ digL i)] → K (.slice a' (xs ++ digL i).length cap') H') : VCall P f #[.slice a n cap, .int .i64 i, .int .i64 10] H K := by
  obtain ⟨hown, -⟩ := st.at_ 0 rfl
  obtain ⟨cs, ⟨hcl, hcase⟩, hreps⟩ := hown
  obtain ⟨rfl, hrng⟩ := reps_u8 hreps
  refine ⟨fun w hw => ⟨hf.call _ w, ?_⟩⟩
  subst hw
  have hnl : n = xs.length := by
    rcases hcase with ⟨he, hn0⟩ | ⟨b, c, l, he, -⟩
    · injection he with e1 e2 e3; omega
    · injection he
  have hrow : w.ownsRow H0.size e 1 (.slice a n cap) xs.length (xs.map (Value.int .u8)) := by
    refine ⟨by rw [List.length_map, Nat.mul_one], ?_⟩
    rcases hcase with ⟨he, hn0⟩ | ⟨b, c, l, he, -, hb, hnc, hcm, hll, htk⟩
    · exact .inl ⟨he, hn0⟩
    · have hge : H0.size ≤ b := by
        have := (st.in_ 0 rfl (k := b) (.inl ⟨0, n, cap, by rw [he]; injection he with e1 e2 e3; subst e1; subst e2; subst e3; rfl⟩)).1
        unfold Old at this
        omega
      exact .inr ⟨b, c, l.toArray, he, hge, hb, hnc, hcm, by rw [List.size_toArray]; exact hll, htk⟩
  have htab : TabBelow P H0.size w powN .u64 pow10Tab := fun w' hb => (hpow.agr (st.old.trans (show Agr (Old H0) w.heap w'.heap from fun j hj => hb.block j hj))) w' rfl
  refine (hf.run_ H0.size xs.length i _ _ w h0 h1 hrow (old_size st.old) hn htab).mono ?_
  rintro _ w' ⟨v', rfl, hown', hbel, -⟩
  obtain ⟨hl', hc'⟩ := hown'
  have hlen : xs.length + (itoa i).length = (xs ++ digL i).length := by rw [List.length_append, digL_len]
  rw [hlen] at hc' hl'
  have hag : Agr (Old H0) H0 w'.heap := st.old.trans (show Agr (Old H0) w.heap w'.heap from fun j hj => hbel.block j hj)
  have hreps' : tU8.reps none_ w'.heap (xs.map (Value.int .u8) ++ Go.Lib.byteCells (itoa i)) (xs ++ digL i) := by
    rw [digL_cells, ← List.map_append]
    refine u8_reps fun x hx => ?_
    rcases List.mem_append.1 hx with hx | hx
    · exact hrng x hx
    · obtain ⟨b, -, rfl⟩ := List.mem_map.1 hx
      exact inU8b b
  have mk : ∀ a' cap', v' = .slice a' (xs ++ digL i).length cap' → SlO tU8 none_ w'.heap H0.size e v' (xs ++ digL i) → ∃ H', H' = w'.heap ∧ St H0 H' [pS tU8 e a' (xs ++ digL i).length cap' (xs ++ digL i)] := fun a' cap' hv hs => by
    subst hv
    refine ⟨_, rfl, ?_⟩
    obtain ⟨a2, c2, e2, st2⟩ := (St.nil H0).got hag hs
    injection e2 with e21 e22 e23
    subst e21; subst e23
    exact st2
  have hs : SlO tU8 none_ w'.heap H0.size e v' (xs ++ digL i) := by
    refine ⟨_, ⟨hl', ?_⟩, hreps'⟩
    rcases hc' with ⟨he, hn0⟩ | ⟨b, c, l, he, hge, hb, hnc, hcm, hll, htk⟩
    · exact .inl ⟨he, hn0⟩
    · exact .inr ⟨b, c, l.toList, he, hge, hb, hnc, hcm, by rw [Array.length_toList]; exact hll, htk⟩
  obtain ⟨a', cap', rfl⟩ := hs.hull
  obtain ⟨_, rfl, st'⟩ := mk a' cap' rfl hs
  exact ⟨_, rfl, ⟨hbel.os.symm ▸ rfl, hbel.tape.symm ▸ rfl, hbel.output.symm ▸ rfl⟩, k a' cap' _ st'⟩
end Go.VC
namespace Go.Proofs.YthomdogheamfpaaDoor
open Go.VC
def laysM176_ren : Go.Shelf.Ren := ⟨fun | 176 => 90 | 249 => 116 | 288 => 128 | 283 => 130 | 284 => 131 | 285 => 132 | 286 => 133 | 129 => 143 | 317 => 145 | 318 => 146 | 319 => 147 | 320 => 148 | 337 => 154 | 338 => 155 | n => n, fun | 37 => 85 | 2 => 2 | 3 => 3 | 53 => 69 | 4 => 4 | 9 => 9 | 171 => 210 | 0 => 0 | 173 => 212 | 212 => 225 | 51 => 222 | 5 => 5 | 20 => 20 | 213 => 226 | 46 => 188 | 232 => 236 | 233 => 237 | n => n, fun | 17 => 1 | 18 => 3 | 19 => 4 | n => n⟩
theorem laysM176 : Go.Proofs.LaysM.n176 Tryd.prog laysM176_ren := {
  mixed := by kernel_rfl
  f129 := Tryd.func143.trans (congrArg some (by kernel_rfl))
  f176 := Tryd.func90.trans (congrArg some (by kernel_rfl))
  f249 := Tryd.func116.trans (congrArg some (by kernel_rfl))
  f283 := Tryd.func130.trans (congrArg some (by kernel_rfl))
  f284 := Tryd.func131.trans (congrArg some (by kernel_rfl))
  f285 := Tryd.func132.trans (congrArg some (by kernel_rfl))
  f286 := Tryd.func133.trans (congrArg some (by kernel_rfl))
  f288 := Tryd.func128.trans (congrArg some (by kernel_rfl))
  f317 := Tryd.func145.trans (congrArg some (by kernel_rfl))
  f318 := Tryd.func146.trans (congrArg some (by kernel_rfl))
  f319 := Tryd.func147.trans (congrArg some (by kernel_rfl))
  f320 := Tryd.func148.trans (congrArg some (by kernel_rfl))
  f337 := Tryd.func154.trans (congrArg some (by kernel_rfl))
  f338 := Tryd.func155.trans (congrArg some (by kernel_rfl))
  t0 := Tryd.underlying0
  a0 := Tryd.isAgg0
  z0 := Tryd.sizeOf0
  v0 := Tryd.zeroValue0
  t2 := Tryd.underlying2
  a2 := Tryd.isAgg2
  z2 := Tryd.sizeOf2
  v2 := Tryd.zeroValue2
  t3 := Tryd.underlying3
  a3 := Tryd.isAgg3
  z3 := Tryd.sizeOf3
  v3 := Tryd.zeroValue3
  t4 := Tryd.underlying4
  a4 := Tryd.isAgg4
  z4 := Tryd.sizeOf4
  v4 := Tryd.zeroValue4
  t5 := Tryd.underlying5
  a5 := Tryd.isAgg5
  z5 := Tryd.sizeOf5
  v5 := Tryd.zeroValue5
  t9 := Tryd.underlying9
  a9 := Tryd.isAgg9
  z9 := Tryd.sizeOf9
  v9 := Tryd.zeroValue9
  t20 := Tryd.underlying20
  a20 := Tryd.isAgg20
  z20 := Tryd.sizeOf20
  v20 := Tryd.zeroValue20
  t37 := Tryd.underlying85
  a37 := Tryd.isAgg85
  z37 := Tryd.sizeOf85
  v37 := Tryd.zeroValue85
  t46 := Tryd.underlying188
  a46 := Tryd.isAgg188
  z46 := Tryd.sizeOf188
  v46 := Tryd.zeroValue188
  t51 := Tryd.underlying222
  a51 := Tryd.isAgg222
  z51 := Tryd.sizeOf222
  v51 := Tryd.zeroValue222
  t53 := Tryd.underlying69
  a53 := Tryd.isAgg69
  z53 := Tryd.sizeOf69
  v53 := Tryd.zeroValue69
  t171 := Tryd.underlying210
  a171 := Tryd.isAgg210
  z171 := Tryd.sizeOf210
  v171 := Tryd.zeroValue210
  t173 := Tryd.underlying212
  a173 := Tryd.isAgg212
  z173 := Tryd.sizeOf212
  v173 := Tryd.zeroValue212
  t212 := Tryd.underlying225
  a212 := Tryd.isAgg225
  z212 := Tryd.sizeOf225
  v212 := Tryd.zeroValue225
  t213 := Tryd.underlying226
  a213 := Tryd.isAgg226
  z213 := Tryd.sizeOf226
  t232 := Tryd.underlying236
  a232 := Tryd.isAgg236
  z232 := Tryd.sizeOf236
  v232 := Tryd.zeroValue236
  t233 := Tryd.underlying237
  a233 := Tryd.isAgg237
  z233 := Tryd.sizeOf237
  v233 := Tryd.zeroValue237
  g17 := by kernel_rfl
  g18 := by kernel_rfl
  g19 := by kernel_rfl
  i0 := by kernel_rfl
  i2 := by kernel_rfl
  i3 := by kernel_rfl
  i4 := by kernel_rfl
  i5 := by kernel_rfl
  i9 := by kernel_rfl
  i20 := by kernel_rfl
  i37 := by kernel_rfl
  i46 := by kernel_rfl
  i51 := by kernel_rfl
  i53 := by kernel_rfl
  i171 := by kernel_rfl
  i173 := by kernel_rfl
  i212 := by kernel_rfl
  i232 := by kernel_rfl
  i233 := by kernel_rfl
  m17 := by kernel_rfl
  m18 := by kernel_rfl
  m19 := by kernel_rfl }
theorem appInt_ : AppInt Tryd.prog 90 5 where
  call := Tryd.call90
  run_ B n i sv xs w h0 h1 hown hB hlim htab := Go.Proofs.Any.strconv_AppendInt_10 laysM176 B n i h0 h1 sv xs w hown hB hlim htab
end Go.Proofs.YthomdogheamfpaaDoor
/- Making automata deterministic: the plain law (names of sets, the walk by lengths and bytes). -/
set_option linter.unusedVariables false
set_option linter.unusedSimpArgs false
set_option maxRecDepth 100000
namespace Go.Proofs.YthomdogheamfpaaDoor
open Go.VC
/-! ### names -/
def digN (q : Int) : List Nat := (Go.Lib.itoa q).map UInt8.toNat
theorem digL_N (q : Int) : digL q = (digN q).map fun (x : Nat) => (x : Int) := by
  unfold digL digN
  rw [List.map_map]
  rfl
def valN (n : Nat) (l : List Nat) : Nat := l.foldl (fun n b => 10 * n + (b - 48)) n
theorem dec_spec (u : Nat) : (∀ b ∈ (Go.Lib.decDigits u).map UInt8.toNat, 48 ≤ b ∧ b ≤ 57) ∧ valN 0 ((Go.Lib.decDigits u).map UInt8.toNat) = u := by
  induction u using Nat.strongRecOn with
  | _ u ih =>
    rw [Go.Lib.decDigits]
    by_cases h : u < 10
    · rw [dif_pos h]
      have e : (UInt8.ofNat (48 + u)).toNat = 48 + u := by rw [UInt8.toNat_ofNat']; omega
      refine ⟨fun b hb => ?_, ?_⟩
      · simp only [List.map_cons, List.map_nil, List.mem_singleton, e] at hb; omega
      · simp only [List.map_cons, List.map_nil, e, valN, List.foldl_cons, List.foldl_nil]; omega
    · rw [dif_neg h]
      obtain ⟨h1, h2⟩ := ih (u / 10) (by omega)
      have e : (UInt8.ofNat (48 + u % 10)).toNat = 48 + u % 10 := by rw [UInt8.toNat_ofNat']; omega
      refine ⟨fun b hb => ?_, ?_⟩
      · rw [List.map_append, List.mem_append] at hb
        rcases hb with hb | hb
        · exact h1 b hb
        · simp only [List.map_cons, List.map_nil, List.mem_singleton, e] at hb; omega
      · unfold valN at h2 ⊢
        rw [List.map_append, List.foldl_append, h2]
        simp only [List.map_cons, List.map_nil, e, List.foldl_cons, List.foldl_nil]; omega
theorem dig_nat {q : Int} (h : 0 ≤ q) : digN q = (Go.Lib.decDigits q.toNat).map UInt8.toNat := by
  unfold digN Go.Lib.itoa
  rw [if_neg (by omega)]
theorem dig_rng {q : Int} (h : 0 ≤ q) : ∀ b ∈ digN q, 48 ≤ b ∧ b ≤ 57 := by rw [dig_nat h]; exact (dec_spec _).1
theorem dig_val {q : Int} (h : 0 ≤ q) : (valN 0 (digN q) : Int) = q := by rw [dig_nat h, (dec_spec _).2]; omega
theorem dec_len : ∀ (k u : Nat), u < 10 ^ (k + 1) → (Go.Lib.decDigits u).length ≤ k + 1
  | 0, u, h => by
    rw [Go.Lib.decDigits, dif_pos (by simpa using h)]; simp
  | k + 1, u, h => by
    rw [Go.Lib.decDigits]
    by_cases h1 : u < 10
    · rw [dif_pos h1]; simp
    · rw [dif_neg h1, List.length_append]
      have := dec_len k (u / 10) (by rw [Nat.div_lt_iff_lt_mul (by decide)]; rw [Nat.pow_succ] at h; omega)
      simp only [List.length_cons, List.length_nil]; omega
theorem dig_len {q : Int} (h : 0 ≤ q ∧ q < 65536) : (digN q).length ≤ 5 := by
  rw [dig_nat h.1, List.length_map]
  exact dec_len 4 _ (by omega)
theorem val_ge : ∀ (l : List Nat) (n : Nat), (∀ b ∈ l, 48 ≤ b) → n ≤ valN n l
  | [], n, _ => Nat.le_refl _
  | b :: l, n, h => by
    have h1 := val_ge l (10 * n + (b - 48)) fun x hx => h x (List.mem_cons_of_mem _ hx)
    unfold valN at h1 ⊢
    rw [List.foldl_cons]
    omega
theorem val_pre {p r : List Nat} {q : Int} (h0 : 0 ≤ q) (h : digN q = p ++ r) : (valN 0 p : Int) ≤ q := by
  have h1 := dig_rng h0
  have h2 := dig_val h0
  rw [h] at h1 h2
  have h3 := val_ge r (valN 0 p) fun b hb => (h1 b (List.mem_append_right _ hb)).1
  unfold valN at h2 h3 ⊢
  rw [List.foldl_append] at h2
  omega
/-- A set's name. -/
def nameN (l : List Int) : List Nat := l.flatMap fun q => digN q ++ [44]
theorem nameN_snoc (l : List Int) (q : Int) : nameN (l ++ [q]) = nameN l ++ digN q ++ [44] := by
  unfold nameN
  rw [List.flatMap_append]
  simp
theorem nameN_lt {l : List Int} (h : ∀ q ∈ l, 0 ≤ q ∧ q < 65536) : ∀ b ∈ nameN l, b < 256 := by
  intro b hb
  obtain ⟨q, hq, hb⟩ := List.mem_flatMap.1 hb
  rcases List.mem_append.1 hb with hb | hb
  · have := dig_rng (h q hq).1 b hb; omega
  · rw [List.mem_singleton] at hb; omega
theorem nameN_len : ∀ {l : List Int}, (∀ q ∈ l, 0 ≤ q ∧ q < 65536) → (nameN l).length ≤ l.length * 6
  | [], _ => Nat.zero_le _
  | q :: l, h => by
    have h1 := nameN_len (l := l) fun x hx => h x (List.mem_cons_of_mem _ hx)
    have h2 := dig_len (h q (List.mem_cons_self ..))
    have h3 : nameN (q :: l) = (digN q ++ [44]) ++ nameN l := by unfold nameN; rw [List.flatMap_cons]
    rw [h3]
    simp only [List.length_append, List.length_cons, List.length_nil]
    omega
/-- Reading a name. -/
def mst (s : List Int × Nat) (b : Nat) : List Int × Nat := if b = 44 then (s.1 ++ [(s.2 : Int)], 0) else (s.1, 10 * s.2 + (b - 48))
theorem mst_digs : ∀ (p : List Nat) (acc : List Int) (n : Nat), (∀ b ∈ p, 48 ≤ b ∧ b ≤ 57) → p.foldl mst (acc, n) = (acc, valN n p)
  | [], _, _, _ => rfl
  | b :: p, acc, n, h => by
    have hb := h b (List.mem_cons_self ..)
    rw [List.foldl_cons, show mst (acc, n) b = (acc, 10 * n + (b - 48)) by unfold mst; rw [if_neg (by omega)], mst_digs p acc _ fun x hx => h x (List.mem_cons_of_mem _ hx)]
    rfl
theorem mst_one {q : Int} (h : 0 ≤ q) (acc : List Int) : (digN q ++ [44]).foldl mst (acc, 0) = (acc ++ [q], 0) := by
  rw [List.foldl_append, mst_digs _ _ _ (dig_rng h)]
  show mst (acc, valN 0 (digN q)) 44 = _
  unfold mst
  rw [if_pos rfl]
  simp only [dig_val h]
theorem mst_all : ∀ (l : List Int) (acc : List Int), (∀ q ∈ l, 0 ≤ q) → (nameN l).foldl mst (acc, 0) = (acc ++ l, 0)
  | [], acc, _ => by simp [nameN]
  | q :: l, acc, h => by
    have h3 : nameN (q :: l) = (digN q ++ [44]) ++ nameN l := by unfold nameN; rw [List.flatMap_cons]
    rw [h3, List.foldl_append, mst_one (h q (List.mem_cons_self ..)), mst_all l _ fun x hx => h x (List.mem_cons_of_mem _ hx)]
    simp
theorem name_inj {l m : List Int} (hl : ∀ q ∈ l, 0 ≤ q) (hm : ∀ q ∈ m, 0 ≤ q) (h : nameN l = nameN m) : l = m := by
  have h1 := mst_all l [] hl
  rw [h, mst_all m [] hm] at h1
  simpa using h1.symm
/-- While a name is read the number stays small. -/
theorem mst_pre : ∀ (l : List Int) (acc : List Int) (i : Nat), (∀ q ∈ l, 0 ≤ q ∧ q < 65536) → (((nameN l).take i).foldl mst (acc, 0)).2 < 65536 ∧ ∃ k, k ≤ l.length ∧ (((nameN l).take i).foldl mst (acc, 0)).1 = acc ++ l.take k
  | [], acc, i, _ => by simp [nameN]
  | q :: l, acc, i, h => by
    have hq := h q (List.mem_cons_self ..)
    have h3 : nameN (q :: l) = (digN q ++ [44]) ++ nameN l := by unfold nameN; rw [List.flatMap_cons]
    rw [h3]
    by_cases hi : i ≤ (digN q).length
    · have e : ((digN q ++ [44]) ++ nameN l).take i = (digN q).take i := by
        rw [List.append_assoc, List.take_append_of_le_length hi]
      rw [e, mst_digs _ _ _ fun b hb => dig_rng hq.1 b (List.mem_of_mem_take hb)]
      have := val_pre hq.1 (List.take_append_drop i (digN q)).symm
      exact ⟨by simp only; omega, 0, Nat.zero_le _, by simp⟩
    · have e : ((digN q ++ [44]) ++ nameN l).take i = (digN q ++ [44]) ++ (nameN l).take (i - (digN q).length - 1) := by
        rw [List.take_append, List.take_of_length_le (by simp only [List.length_append, List.length_cons, List.length_nil]; omega)]
        simp only [List.length_append, List.length_cons, List.length_nil]
        rw [show i - ((digN q).length + (0 + 1)) = i - (digN q).length - 1 by omega]
      rw [e, List.foldl_append, mst_one hq.1]
      obtain ⟨h1, k, hk, h2⟩ := mst_pre l (acc ++ [q]) (i - (digN q).length - 1) fun x hx => h x (List.mem_cons_of_mem _ hx)
      exact ⟨h1, k + 1, by simp only [List.length_cons]; omega, by rw [h2]; simp⟩
def nmB (l : List Int) : ByteArray := ⟨((nameN l).map UInt8.ofNat).toArray⟩
theorem byN_of5 {l : List Nat} (h : ∀ x ∈ l, x < 256) : byN ⟨(l.map UInt8.ofNat).toArray⟩ = l := by
  unfold byN
  rw [List.map_map]
  refine (List.map_congr_left fun x hx => ?_).trans (List.map_id _)
  show (UInt8.ofNat x).toNat = x
  rw [UInt8.toNat_ofNat']
  exact Nat.mod_eq_of_lt (h x hx)
theorem byN_nm {l : List Int} (h : ∀ q ∈ l, 0 ≤ q ∧ q < 65536) : byN (nmB l) = nameN l := byN_of5 (nameN_lt h)
theorem nmB_inj {l m : List Int} (hl : ∀ q ∈ l, 0 ≤ q ∧ q < 65536) (hm : ∀ q ∈ m, 0 ≤ q ∧ q < 65536) (h : nmB l = nmB m) : l = m := by
  have := congrArg byN h
  rw [byN_nm hl, byN_nm hm] at this
  exact name_inj (fun q hq => (hl q hq).1) (fun q hq => (hm q hq).1) this
theorem nmB_size {l : List Int} (h : ∀ q ∈ l, 0 ≤ q ∧ q < 65536) : (nmB l).size = (nameN l).length := by
  rw [← byN_len, byN_nm h]
/-! ### the walk over all sets that words lead to -/
section
variable {K : Type} [DecidableEq K]
/-- The number of a thing among those found; a new one is put behind them while there is room. -/
def atF (most : Nat) (f : List K) (k : K) : Option (List K × Nat) := match f.findIdx? (· = k) with
  | some i => some (f, i)
  | none => if f.length < most then some (f ++ [k], f.length) else none
def rowF (most : Nat) (step : K → Nat → K) (x : K) (s : Option (List K × List Nat)) (b : Nat) : Option (List K × List Nat) :=
  s.bind fun p => (atF most p.1 (step x b)).map fun r => (r.1, p.2 ++ [r.2])
def rowsF (most : Nat) (step : K → Nat → K) (bs : List Nat) (start : K) : Nat → Option (List K × List (List Nat))
  | 0 => some ([start], [])
  | n + 1 => (rowsF most step bs start n).bind fun p => match p.1[n]? with
    | none => some p
    | some x => (bs.foldl (rowF most step x) (some (p.1, []))).map fun r => (r.1, p.2 ++ [r.2])
variable {most : Nat} {step : K → Nat → K} {bs : List Nat} {start : K}
theorem rowF_none (x : K) : ∀ l : List Nat, l.foldl (rowF most step x) none = none
  | [] => rfl
  | b :: l => by rw [List.foldl_cons]; exact rowF_none x l
theorem atF_some {f f' : List K} {k : K} {i : Nat} (h : atF most f k = some (f', i)) (hl : f.length ≤ most) (hn : f.Nodup) : f'[i]? = some k ∧ f'.length ≤ most ∧ f'.Nodup ∧ f <+: f' := by
  unfold atF at h
  cases hf : f.findIdx? (· = k) with
  | some j =>
    rw [hf] at h
    injection h with h
    injection h with h1 h2
    subst h1; subst h2
    obtain ⟨hj, h3, -⟩ := List.findIdx?_eq_some_iff_getElem.1 hf
    have h3 : f[j] = k := by simpa using h3
    exact ⟨by rw [List.getElem?_eq_getElem hj, h3], hl, hn, List.prefix_refl _⟩
  | none =>
    rw [hf] at h
    simp only at h
    split at h
    · rename_i hlt
      injection h with h
      injection h with h1 h2
      subst h1; subst h2
      have hno : k ∉ f := fun hk => by
        have := List.findIdx?_eq_none_iff.1 hf k hk
        simp at this
      refine ⟨by simp, by simp only [List.length_append, List.length_cons, List.length_nil]; omega, ?_, List.prefix_append _ _⟩
      rw [List.nodup_append]
      exact ⟨hn, by simp, fun a ha b hb => by rw [List.mem_singleton] at hb; subst hb; intro e; subst e; exact hno ha⟩
    · cases h
omit [DecidableEq K] in
theorem pre_get {f f' : List K} {i : Nat} {k : K} (h : f <+: f') (hi : f[i]? = some k) : f'[i]? = some k := by
  obtain ⟨t, rfl⟩ := h
  rw [List.getElem?_append_left (List.getElem?_eq_some_iff.1 hi).1]
  exact hi
/-- What holds while the rows are made. -/
structure RowsOk (most : Nat) (step : K → Nat → K) (bs : List Nat) (start : K) (n : Nat) (f : List K) (rows : List (List Nat)) : Prop where
  len : f.length ≤ most
  nd : f.Nodup
  zero : f[0]? = some start
  rl : rows.length = n
  cols : ∀ row ∈ rows, row.length = bs.length
  ok : ∀ (i k : Nat) (row : List Nat) (b t : Nat) (x : K), rows[i]? = some row → bs[k]? = some b → row[k]? = some t → f[i]? = some x → f[t]? = some (step x b)
theorem foldRow_ok {f : List K} {x : K} (hl : f.length ≤ most) (hn : f.Nodup) : ∀ (k : Nat), k ≤ bs.length → ∀ (f' : List K) (row : List Nat), (bs.take k).foldl (rowF most step x) (some (f, [])) = some (f', row) →
    f'.length ≤ most ∧ f'.Nodup ∧ f <+: f' ∧ row.length = k ∧ ∀ (j b t : Nat), bs[j]? = some b → row[j]? = some t → f'[t]? = some (step x b) := by
  intro k
  induction k with
  | zero =>
    intro _ f' row h
    simp only [List.take_zero, List.foldl_nil, Option.some.injEq, Prod.mk.injEq] at h
    obtain ⟨rfl, rfl⟩ := h
    exact ⟨hl, hn, List.prefix_refl _, rfl, fun j b t _ h => by simp at h⟩
  | succ k ih =>
    intro hk f' row h
    obtain ⟨b, hb⟩ := get_some (l := bs) (k := k) (by omega)
    rw [take_succ_snoc hb, List.foldl_append] at h
    cases hp : (bs.take k).foldl (rowF most step x) (some (f, [])) with
    | none => rw [hp] at h; cases h
    | some p =>
      obtain ⟨f1, r1⟩ := p
      obtain ⟨i1, i2, i3, i4, i5⟩ := ih (by omega) f1 r1 hp
      rw [hp] at h
      simp only [List.foldl_cons, List.foldl_nil, rowF, Option.bind_some] at h
      cases ha : atF most f1 (step x b) with
      | none => rw [ha] at h; cases h
      | some r =>
        obtain ⟨f2, t2⟩ := r
        rw [ha] at h
        simp only [Option.map_some, Option.some.injEq, Prod.mk.injEq] at h
        obtain ⟨rfl, rfl⟩ := h
        obtain ⟨a1, a2, a3, a4⟩ := atF_some ha i1 i2
        refine ⟨a2, a3, i3.trans a4, by simp [i4], fun j c t hc ht => ?_⟩
        by_cases hj : j < k
        · rw [List.getElem?_append_left (by omega)] at ht
          exact pre_get a4 (i5 j c t hc ht)
        · have hjl := (List.getElem?_eq_some_iff.1 ht).1
          simp only [List.length_append, List.length_cons, List.length_nil] at hjl
          obtain rfl : j = k := by omega
          rw [hb] at hc
          injection hc with hc
          subst hc
          rw [List.getElem?_append_right (by omega), i4, Nat.sub_self] at ht
          simp only [List.getElem?_cons_zero, Option.some.injEq] at ht
          subst ht
          exact a1
theorem foldRow_pre {f : List K} {x : K} (hl : f.length ≤ most) (hn : f.Nodup) {f' : List K} {row : List Nat} (h : bs.foldl (rowF most step x) (some (f, [])) = some (f', row)) :
    f'.length ≤ most ∧ f'.Nodup ∧ f <+: f' ∧ row.length = bs.length ∧ ∀ (j b t : Nat), bs[j]? = some b → row[j]? = some t → f'[t]? = some (step x b) :=
  foldRow_ok hl hn bs.length (Nat.le_refl _) f' row (by rw [List.take_length]; exact h)
theorem rowsF_ok (hm : 1 ≤ most) : ∀ (n : Nat) (f : List K) (rows : List (List Nat)), rowsF most step bs start n = some (f, rows) → (∀ j, j < n → j < f.length) → RowsOk most step bs start n f rows
  | 0, f, rows, h, _ => by
    simp only [rowsF, Option.some.injEq, Prod.mk.injEq] at h
    obtain ⟨rfl, rfl⟩ := h
    exact ⟨hm, by simp, rfl, rfl, (fun row h => by cases h), fun i k row b t x h => by simp at h⟩
  | n + 1, f, rows, h, hlt => by
    simp only [rowsF] at h
    cases hp : rowsF most step bs start n with
    | none => rw [hp] at h; cases h
    | some p =>
      obtain ⟨f1, rows1⟩ := p
      rw [hp] at h
      simp only [Option.bind_some] at h
      cases hx : f1[n]? with
      | none =>
        rw [hx] at h
        simp only [Option.some.injEq, Prod.mk.injEq] at h
        obtain ⟨rfl, rfl⟩ := h
        have := hlt n (by omega)
        rw [List.getElem?_eq_none_iff] at hx
        omega
      | some x =>
        rw [hx] at h
        simp only at h
        cases hr : bs.foldl (rowF most step x) (some (f1, [])) with
        | none => rw [hr] at h; cases h
        | some r =>
          obtain ⟨f2, row⟩ := r
          rw [hr] at h
          simp only [Option.map_some, Option.some.injEq, Prod.mk.injEq] at h
          obtain ⟨rfl, rfl⟩ := h
          have hxl := (List.getElem?_eq_some_iff.1 hx).1
          have ih := rowsF_ok hm n f1 rows1 hp fun j hj => by omega
          obtain ⟨g1, g2, g3, g4, g5⟩ := foldRow_pre ih.len ih.nd hr
          refine ⟨g1, g2, pre_get g3 ih.zero, by simp [ih.rl], fun r hr' => ?_, fun i k r b t y hi hk ht hy => ?_⟩
          · rcases List.mem_append.1 hr' with hr' | hr'
            · exact ih.cols r hr'
            · rw [List.mem_singleton] at hr'; subst hr'; exact g4
          · by_cases hin : i < n
            · rw [List.getElem?_append_left (by rw [ih.rl]; exact hin)] at hi
              obtain ⟨y1, hy1⟩ := get_some (l := f1) (k := i) (by omega)
              have := pre_get g3 hy1
              rw [hy] at this
              injection this with this
              subst this
              exact pre_get g3 (ih.ok i k r b t y hi hk ht hy1)
            · have hil := (List.getElem?_eq_some_iff.1 hi).1
              simp only [List.length_append, List.length_cons, List.length_nil, ih.rl] at hil
              obtain rfl : i = n := by omega
              rw [List.getElem?_append_right (by rw [ih.rl]; exact Nat.le_refl _), ih.rl, Nat.sub_self] at hi
              simp only [List.getElem?_cons_zero, Option.some.injEq] at hi
              subst hi
              have := pre_get g3 hx
              rw [hy] at this
              injection this with this
              subst this
              exact g5 k b t hk ht
/-- Once all that was found has its row, nothing more is done. -/
theorem rowsF_stop {n : Nat} {f : List K} {rows : List (List Nat)} (h : rowsF most step bs start n = some (f, rows)) (hn : f.length ≤ n) : ∀ m, n ≤ m → rowsF most step bs start m = some (f, rows) := by
  intro m hm
  induction m with
  | zero => obtain rfl : n = 0 := by omega
            exact h
  | succ m ih =>
    by_cases he : n = m + 1
    · subst he; exact h
    · have := ih (by omega)
      simp only [rowsF, this, Option.bind_some]
      rw [List.getElem?_eq_none (by omega)]
theorem rowsF_fail {n : Nat} (h : rowsF most step bs start n = none) : ∀ m, n ≤ m → rowsF most step bs start m = none := by
  intro m hm
  induction m with
  | zero => obtain rfl : n = 0 := by omega
            exact h
  | succ m ih =>
    by_cases he : n = m + 1
    · subst he; exact h
    · have := ih (by omega)
      simp only [rowsF, this, Option.bind_none]
/-- What comes out: all that was found, with its rows, or nothing where there is no room. -/
def detF (most : Nat) (step : K → Nat → K) (bs : List Nat) (start : K) : Option (List K × List (List Nat)) := rowsF most step bs start most
theorem detF_done {n : Nat} {f : List K} {rows : List (List Nat)} (h : rowsF most step bs start n = some (f, rows)) (hn : f.length = n) (hl : f.length ≤ most) : detF most step bs start = some (f, rows) :=
  rowsF_stop h (by omega) most (by omega)
theorem detF_none {n : Nat} (h : rowsF most step bs start (n + 1) = none) (hn : n < most) : detF most step bs start = none := rowsF_fail h most hn
end
end Go.Proofs.YthomdogheamfpaaDoor
