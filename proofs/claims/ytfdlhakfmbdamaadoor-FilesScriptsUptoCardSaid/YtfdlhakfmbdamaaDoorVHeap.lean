/- What the operations on memory ask and give, in terms of heaps: cells, blocks, slices, maps. -/
import Derived.Test.YtfdlhakfmbdamaaDoorVBase
import Derived.WalkKit
import Derived.Deep.MidRow
import Derived.Deep.AppendSrc
set_option linter.unusedVariables false
set_option linter.unusedSimpArgs false
namespace Go.VC

/-! ### type facts -/
structure SlT (P : Program) (t e : TypeId) (sz by_ : Nat) (z : Value) : Prop where
  under : P.underlying t = some (.slice e)
  info : ∃ i, P.info? e = some i ∧ i.size = sz ∧ i.bytes = by_ ∧ i.zero = some z
  zsz : z.cells.size = sz
structure CellT (P : Program) (t : TypeId) : Prop where
  under : ∃ d, P.underlying t = some d ∧ d.isRow = false
  size : (P.info? t).map (·.size) = some 1
structure AggT (P : Program) (t : TypeId) (n : Nat) : Prop where
  under : ∃ d, P.underlying t = some d ∧ d.isRow = true
  size : (P.info? t).map (·.size) = some n
structure FieldT (P : Program) (s f off ft n : Nat) : Prop where
  under : ∃ fs fd, P.underlying s = some (.struct fs) ∧ fs[f]? = some fd ∧ fd.offset = off ∧ fd.type = ft
  size : (P.info? ft).map (·.size) = some n
  pos : n ≠ 0
structure ArrT (P : Program) (t len e sz : Nat) : Prop where
  under : P.underlying t = some (.array len e)
  size : (P.info? e).map (·.size) = some sz

/-! ### cells -/
def cell (H : Heap) (b o : Nat) : Option Value := match H[b]? with
  | some (.cells c _ _) => c[o]?
  | _ => none
/-- The cells cs lie in block b from o on. -/
def Cells (H : Heap) (b o : Nat) (cs : List Value) : Prop := ∀ j v, cs[j]? = some v → cell H b (o + j) = some v
/-- Block b is a row of these cells, that may be written. -/
def Blk (H : Heap) (b : Nat) (e : TypeId) (l : List Value) : Prop := H[b]? = some (.cells l.toArray e (0, 0))

theorem cell_w (w : World) (b o : Nat) : w.cell? ⟨b, o, none⟩ = cell w.heap b o := by
  unfold World.cell? cell
  cases h : w.heap[b]? with
  | none => rfl
  | some x => cases x <;> rfl
theorem cell_eq {H H' : Heap} {b o : Nat} (h : H'[b]? = H[b]?) : cell H' b o = cell H b o := by unfold cell; rw [h]
theorem Cells.eq {H H' : Heap} {b o : Nat} {cs : List Value} (hc : Cells H b o cs) (h : H'[b]? = H[b]?) : Cells H' b o cs :=
  fun j v hv => by rw [cell_eq h]; exact hc j v hv
theorem Blk.cell {H : Heap} {b : Nat} {e : TypeId} {l : List Value} (h : Blk H b e l) (o : Nat) : VC.cell H b o = l[o]? := by
  unfold VC.cell; rw [h]; simp
theorem Blk.cells {H : Heap} {b : Nat} {e : TypeId} {l cs : List Value} (h : Blk H b e l) {o : Nat} (hc : ∀ j v, cs[j]? = some v → l[o + j]? = some v) : Cells H b o cs :=
  fun j v hv => by rw [h.cell]; exact hc j v hv
theorem Blk.lt {H : Heap} {b : Nat} {e : TypeId} {l : List Value} (h : Blk H b e l) : b < H.size := (Array.getElem?_eq_some_iff.1 h).1
theorem Blk.eq {H H' : Heap} {b : Nat} {e : TypeId} {l : List Value} (h : Blk H b e l) (k : H'[b]? = H[b]?) : Blk H' b e l := k.trans h
theorem Blk.agr {S : Nat → Prop} {H H' : Heap} {b : Nat} {e : TypeId} {l : List Value} (h : Blk H b e l) (k : Agr S H H') (hb : S b) : Blk H' b e l := (k b hb).trans h
theorem Cells.lt {H : Heap} {b o : Nat} {cs : List Value} (h : Cells H b o cs) (hn : cs ≠ []) : b < H.size := by
  cases cs with
  | nil => exact absurd rfl hn
  | cons v cs =>
    have h0 := h 0 v rfl
    unfold cell at h0
    split at h0
    · rename_i hb; exact (Array.getElem?_eq_some_iff.1 hb).1
    · cases h0
theorem agr_size {n : Nat} {H H' : Heap} (h : Agr (fun k => k < n) H H') (hn : n ≤ H.size) : n ≤ H'.size := by
  rcases Nat.eq_zero_or_pos n with h0 | h0
  · omega
  · have := h (n - 1) (by omega)
    rw [Array.getElem?_eq_getElem (show n - 1 < H.size by omega)] at this
    have := (Array.getElem?_eq_some_iff.1 this).1
    omega

theorem range_w {w : World} {H : Heap} {b o : Nat} {cs : List Value} (hc : Cells H b o cs) (h : w.heap[b]? = H[b]?) : w.rangeAt b o cs := fun j v hv => by
  rw [cell_w, cell_eq h]; exact hc j v hv

/-! ### reading -/
theorem ld1 {P : Program} {t : TypeId} {b o : Nat} {S : Nat → Prop} {H : Heap} {K : Value → Prop} {v : Value} (ht : CellT P t) (hc : cell H b o = some v) (hS : S b) (k : K v) :
    VDet P (Instr.loadAt t (.pointer (some ⟨b, o, none⟩))) S H K := by
  refine VDet.mk v (fun w hw => ?_) k
  obtain ⟨d, hu, hd⟩ := ht.under
  have h1 : w.cell? ⟨b, o, none⟩ = some v := by rw [cell_w, cell_eq (hw b hS)]; exact hc
  have hagg : (isAgg t).run P w = .ok false w := by
    unfold isAgg
    rw [Sem.run_bind, run_underlying hu w]
    cases d <;> simp_all
  simp [Instr.loadAt, Instr.sureAddr, loadVar, hagg, load, Sem.run, h1]
theorem ldN {P : Program} {t : TypeId} {b o : Nat} {S : Nat → Prop} {H : Heap} {K : Value → Prop} {cs : List Value} (ht : AggT P t cs.length) (hc : Cells H b o cs) (hS : S b) (k : K (.agg cs.toArray)) :
    VDet P (Instr.loadAt t (.pointer (some ⟨b, o, none⟩))) S H K := by
  refine VDet.mk _ (fun w hw => ?_) k
  obtain ⟨d, hu, hd⟩ := ht.under
  exact run_loadAt_mid w b o t cs d (range_w hc (hw b hS)) hu hd ht.size

theorem ix {P : Program} {t e : TypeId} {sz by_ : Nat} {z : Value} {b o n cap : Nat} {k : IntKind} {i : Int} {S : Nat → Prop} {H : Heap} {K : Value → Prop} (ht : SlT P t e sz by_ z) (h0 : 0 ≤ i) (h1 : i < n)
    (hk : K (.pointer (some ⟨b, o + i.toNat * sz, none⟩))) : VDet P (Instr.indexAt t (.slice (some ⟨b, o, none⟩) n cap) (.int k i)) S H K := by
  obtain ⟨inf, hi, hs, _, _⟩ := ht.info
  refine VDet.mk _ (fun w _ => ?_) hk
  have ha : (⟨b, o, none⟩ : Addr).add (i.toNat * sz) = ⟨b, o + i.toNat * sz, none⟩ := Addr.add_mid _ _ _
  simp [Instr.indexAt, asIntOf, run_underlying ht.under, h0, h1, sizeOf, typeInfo, hi, hs, ha]

/-! ### new memory -/
theorem heap_push_old (H : Heap) (o : Obj) : Agr (fun k => k < H.size) H (H.push o) := fun k hk => by
  rw [Array.getElem?_push, if_neg (by omega)]
theorem alloc_heap (w : World) (o : Obj) : (w.alloc o).heap = w.heap.push o := rfl

theorem newRow_run {P : Program} (e : TypeId) (l : List Value) (w : World) : (newRow e l.toArray).run P w = .ok ⟨w.heap.size, 0, none⟩ (w.alloc (.cells l.toArray e)) := by
  simp [newRow]

/-- New memory: the heap has one block more. -/
def New (H : Heap) (K : Nat → Heap → Prop) (e : TypeId) (l : List Value) : Prop :=
  ∀ b H', b = H.size → H'.size = b + 1 → Blk H' b e l → Agr (fun k => k < b) H H' → K b H'
theorem New.go {H : Heap} {K : Nat → Heap → Prop} {e : TypeId} {l : List Value} (h : New H K e l) : K H.size (H.push (.cells l.toArray e)) :=
  h H.size _ rfl (by simp) (by unfold Blk; simp) (heap_push_old H _)

theorem vbox {P : Program} {t : TypeId} {v : Value} {H : Heap} {K : Value → Heap → Prop} (l : List Value) (hv : v.cells = l.toArray)
    (h : New H (fun b H' => K (.pointer (some ⟨b, 0, none⟩)) H') t l) : VEff P (Instr.box t v) H K := by
  refine VEff.mk fun w hw => ?_
  subst hw
  exact ⟨_, w.alloc (.cells l.toArray t), by simp [Instr.box, newVar, hv, newRow], ⟨rfl, rfl, rfl⟩, h.go⟩
theorem valloc {P : Program} {t : TypeId} {H : Heap} {K : Value → Heap → Prop} (z : Value) (l : List Value) (hz : (P.info? t).bind (·.zero) = some z) (hv : z.cells = l.toArray)
    (h : New H (fun b H' => K (.pointer (some ⟨b, 0, none⟩)) H') t l) : VEff P (Instr.alloc t true (.tuple #[])) H K := by
  refine VEff.mk fun w hw => ?_
  subst hw
  refine ⟨_, w.alloc (.cells l.toArray t), ?_, ⟨rfl, rfl, rfl⟩, h.go⟩
  cases hi : P.info? t with
  | none => rw [hi] at hz; cases hz
  | some i =>
    have hz' : i.zero = some z := by simpa [hi] using hz
    simp [Instr.alloc, zeroValue, typeInfo, hi, hz', newVar, hv, newRow]

/-- The cells that a list of parts fills. -/
theorem vbuild {P : Program} {t e : TypeId} {sz by_ : Nat} {z : Value} {n : Nat} {vs : Array (Nat × Value)} {H : Heap} {K : Value → Heap → Prop} (ht : SlT P t e sz by_ z) (l : List Value) (hn : n * sz ≤ 16777216) (h0 : 0 < n * sz)
    (hf : Instr.fill (fun i => some (i * sz, sz)) ((Array.range (n * sz)).map (z.cells[· % z.cells.size]!)) vs.toList = some l.toArray)
    (h : New H (fun b H' => K (.slice (some ⟨b, 0, none⟩) n n) H') e l) : VEff P (Instr.buildSlice t n vs) H K := by
  refine VEff.mk fun w hw => ?_
  subst hw
  refine ⟨_, w.alloc (.cells l.toArray e), ?_, ⟨rfl, rfl, rfl⟩, h.go⟩
  obtain ⟨inf, hi, hs, _, hz⟩ := ht.info
  have h1 : ¬ (16777216 < n * sz) := by omega
  have h2 : ¬ (n * sz = 0) := by omega
  simp only [Instr.buildSlice, Sem.run_bind, run_underlying ht.under, Result.andThen_ok, sizeOf, typeInfo, zeroValue]
  simp [hi, hs, hz, h1, h2, hf, newRow]

theorem vmake {P : Program} {t e : TypeId} {sz by_ : Nat} {z : Value} {kl kc : IntKind} {l c : Int} {H : Heap} {K : Value → Heap → Prop} (ht : SlT P t e sz by_ z) (h0 : 0 ≤ l) (hlc : l ≤ c) (hb : (by_ : Int) * c ≤ 281474976710656)
    (h63 : c ≤ 9223372036854775807)
    (h : New H (fun b H' => K (.slice (some ⟨b, 0, none⟩) l.toNat c.toNat) H') e ((List.range (c.toNat * sz)).map (z.cells[· % z.cells.size]!))) : VEff P (Instr.makeSlice t (.int kl l) (.int kc c)) H K := by
  refine VEff.mk fun w hw => ?_
  subst hw
  obtain ⟨inf, hi, hs, hby, hz⟩ := ht.info
  have hr := run_make (P := P) w t e inf z ht.under hi hz kl kc l c h0 hlc (by rw [hby]; exact hb) h63
  have e1 : madeCells z.cells (c.toNat * inf.size) = ((List.range (c.toNat * sz)).map (z.cells[· % z.cells.size]!)).toArray := by
    rw [hs]; unfold madeCells; apply Array.ext'; simp
  rw [e1] at hr
  exact ⟨_, _, hr, ⟨rfl, rfl, rfl⟩, h.go⟩

/-! ### writing -/
theorem setCell_heap (w : World) (b o : Nat) (v : Value) : (w.setCell ⟨b, o, none⟩ v).heap = w.heap.modify b fun
      | .cells c elem frozen => .cells (c.setIfInBounds o v) elem frozen
      | x => x := by
  unfold World.setCell
  simp only [Option.isSome_none, Bool.false_eq_true, if_false]
  congr 1
theorem setCell_blk {w : World} {b o : Nat} {e : TypeId} {l : List Value} (hb : Blk w.heap b e l) (v : Value) :
    Blk (w.setCell ⟨b, o, none⟩ v).heap b e (l.set o v) ∧ Agr (fun k => k ≠ b) w.heap (w.setCell ⟨b, o, none⟩ v).heap ∧ (w.setCell ⟨b, o, none⟩ v).heap.size = w.heap.size := by
  rw [setCell_heap]
  refine ⟨?_, fun k hk => ?_, by simp⟩
  · unfold Blk at hb ⊢
    rw [Array.getElem?_modify, if_pos rfl, hb]
    simp
  · rw [Array.getElem?_modify, if_neg (fun h => hk h.symm)]

theorem frozen_blk {w : World} {b o : Nat} {e : TypeId} {l : List Value} (hb : Blk w.heap b e l) : w.frozen? ⟨b, o, none⟩ = false := by
  unfold World.frozen?
  simp only
  rw [hb]
  simp

/-- A block has turned. -/
def Turn (H : Heap) (K : Heap → Prop) (b : Nat) (e : TypeId) (l : List Value) : Prop :=
  ∀ H', Blk H' b e l → Agr (fun k => k ≠ b) H H' → H'.size = H.size → K H'

theorem st1 {P : Program} {t e : TypeId} {b o : Nat} {l : List Value} {v : Value} {H : Heap} {K : Heap → Prop} (ht : CellT P t) (hb : Blk H b e l) (ho : o < l.length) (hv : v.oneCell' = true)
    (h : Turn H K b e (l.set o v)) : VEffU P (Instr.storeAt t (.pointer (some ⟨b, o, none⟩)) v) H K := by
  refine VEffU.mk fun w hw => ?_
  subst hw
  have hc : w.cell? ⟨b, o, none⟩ = some l[o] := by rw [cell_w, hb.cell]; simp [ho]
  obtain ⟨h1, h2, h3⟩ := setCell_blk (o := o) hb v
  refine ⟨_, ?_, ?_, h _ h1 h2 h3⟩
  · have hcs : v.cells = #[v] := by cases v <;> simp_all [Value.cells, Value.oneCell']
    have hst := run_storeCells_cells (P := P) b o [v] 0 w (by simp [hc]) (by simp [frozen_blk hb]) (by simpa using hv)
    cases hq : P.info? t with
    | none => have := ht.size; simp [hq] at this
    | some i =>
      have hs : i.size = 1 := by have := ht.size; simpa [hq] using this
      simp only [Nat.add_zero] at hst
      simp [Instr.storeAt, Instr.sureAddr, storeVar, sizeOf, typeInfo, hq, hcs, hs, hst, World.setCells]
  · exact ⟨rfl, rfl, rfl⟩

/-- The row l with the cells cs from o on. -/
def splice (l : List Value) (o : Nat) (cs : List Value) : List Value := l.take o ++ cs ++ l.drop (o + cs.length)
theorem splice_length {l : List Value} {o : Nat} {cs : List Value} (h : o + cs.length ≤ l.length) : (splice l o cs).length = l.length := by
  unfold splice; simp; omega
theorem splice_get {l : List Value} {o : Nat} {cs : List Value} (h : o + cs.length ≤ l.length) (j : Nat) :
    (splice l o cs)[j]? = if o ≤ j ∧ j < o + cs.length then cs[j - o]? else l[j]? := by
  unfold splice
  rw [List.append_assoc]
  by_cases h1 : j < o
  · rw [if_neg (by omega), List.getElem?_append_left (by simp; omega), List.getElem?_take_of_lt h1]
  · rw [List.getElem?_append_right (by simp; omega)]
    simp only [List.length_take, Nat.min_eq_left (show o ≤ l.length by omega)]
    by_cases h2 : j < o + cs.length
    · rw [if_pos (by omega), List.getElem?_append_left (by omega)]
    · rw [if_neg (by omega), List.getElem?_append_right (by omega), List.getElem?_drop]
      congr 1; omega

theorem setCells_blk {b : Nat} {e : TypeId} : ∀ (cs : List Value) (o : Nat) (l : List Value) (w : World), Blk w.heap b e l → o + cs.length ≤ l.length →
    Blk (w.setCells b o cs).heap b e (splice l o cs) ∧ Agr (fun k => k ≠ b) w.heap (w.setCells b o cs).heap ∧ (w.setCells b o cs).heap.size = w.heap.size ∧ Env w (w.setCells b o cs)
  | [], o, l, w, hb, _ => ⟨by simpa [splice, World.setCells] using hb, Agr.refl _ _, rfl, Env.refl w⟩
  | v :: cs, o, l, w, hb, hl => by
    simp only [List.length_cons] at hl
    obtain ⟨h1, h2, h3⟩ := setCell_blk (o := o) hb v
    obtain ⟨k1, k2, k3, k4⟩ := setCells_blk cs (o + 1) (l.set o v) (w.setCell ⟨b, o, none⟩ v) h1 (by simp; omega)
    refine ⟨?_, h2.trans k2, k3.trans h3, ⟨k4.os, k4.tape, k4.output⟩⟩
    have e1 : splice (l.set o v) (o + 1) cs = splice l o (v :: cs) := by
      apply List.ext_getElem?
      intro j
      rw [splice_get (by simp; omega), splice_get (by simp; omega)]
      simp only [List.length_cons]
      by_cases h : j = o
      · subst h; rw [if_neg (by omega), if_pos (by omega)]; simp [show j < l.length by omega]
      · by_cases h' : o + 1 ≤ j ∧ j < o + 1 + cs.length
        · rw [if_pos h', if_pos (by omega)]
          rw [show j - o = (j - (o + 1)) + 1 by omega, List.getElem?_cons_succ]
        · rw [if_neg h', if_neg (by omega), List.getElem?_set, if_neg (fun h2 => h h2.symm)]
    rw [← e1]
    exact k1

theorem stN {P : Program} {t e : TypeId} {b o : Nat} {l cs : List Value} {H : Heap} {K : Heap → Prop} (ht : (P.info? t).map (·.size) = some cs.length) (hb : Blk H b e l) (ho : o + cs.length ≤ l.length) (hv : cs.all (·.oneCell') = true)
    (h : Turn H K b e (splice l o cs)) : VEffU P (Instr.storeAt t (.pointer (some ⟨b, o, none⟩)) (.agg cs.toArray)) H K := by
  refine VEffU.mk fun w hw => ?_
  subst hw
  have hthere : w.there b o cs.toArray.size := fun j hj => by
    simp only [List.size_toArray] at hj
    refine ⟨?_, frozen_blk hb⟩
    rw [cell_w, hb.cell]; simp; omega
  obtain ⟨h1, h2, h3, h4⟩ := setCells_blk cs o l w hb ho
  refine ⟨_, run_storeAt_mid (P := P) w b o t cs.toArray hthere (by simpa using ht) (by simpa using hv), by simpa using h4, ?_⟩
  simpa using h _ h1 h2 h3

/-! ### a slice that the call itself made -/
/-- v is a slice over a block of the call's own, from lo on, that begins with the cells cs (n elements); or nil. -/
def Sl (H : Heap) (lo : Nat) (e : TypeId) (sz : Nat) (v : Value) (n : Nat) (cs : List Value) : Prop :=
  cs.length = n * sz ∧ ((v = .slice none 0 0 ∧ n = 0) ∨
    ∃ b cap l, v = .slice (some ⟨b, 0, none⟩) n cap ∧ lo ≤ b ∧ Blk H b e l ∧ n ≤ cap ∧ cap ≤ maxLen ∧ l.length = cap * sz ∧ l.take (n * sz) = cs)
def slB (v : Value) (k : Nat) : Prop := ∃ o n c, v = .slice (some ⟨k, o, none⟩) n c

theorem Sl.nil (H : Heap) (lo : Nat) (e : TypeId) (sz : Nat) : Sl H lo e sz (.slice none 0 0) 0 [] := ⟨by simp, .inl ⟨rfl, rfl⟩⟩
theorem Sl.made {H : Heap} {lo : Nat} {e : TypeId} {sz b n cap : Nat} {l : List Value} (hlo : lo ≤ b) (hb : Blk H b e l) (hn : n ≤ cap) (hc : cap ≤ maxLen) (hl : l.length = cap * sz) :
    Sl H lo e sz (.slice (some ⟨b, 0, none⟩) n cap) n (l.take (n * sz)) :=
  ⟨by rw [List.length_take, hl, Nat.min_eq_left (Nat.mul_le_mul_right _ hn)], .inr ⟨b, cap, l, rfl, hlo, hb, hn, hc, hl, rfl⟩⟩
theorem Sl.agr {S : Nat → Prop} {H H' : Heap} {lo : Nat} {e : TypeId} {sz n : Nat} {v : Value} {cs : List Value} (h : Sl H lo e sz v n cs) (k : Agr S H H') (hS : ∀ b, slB v b → S b) : Sl H' lo e sz v n cs := by
  obtain ⟨h1, h2⟩ := h
  refine ⟨h1, ?_⟩
  rcases h2 with h2 | ⟨b, cap, l, rfl, hlo, hb, r⟩
  · exact .inl h2
  · exact .inr ⟨b, cap, l, rfl, hlo, hb.agr k (hS b ⟨_, _, _, rfl⟩), r⟩
theorem Sl.lt {H : Heap} {lo : Nat} {e : TypeId} {sz n : Nat} {v : Value} {cs : List Value} (h : Sl H lo e sz v n cs) {b : Nat} (hb : slB v b) : lo ≤ b ∧ b < H.size := by
  obtain ⟨o, n', c, rfl⟩ := hb
  rcases h.2 with ⟨h2, _⟩ | ⟨b', cap, l, h2, hlo, hb, r⟩
  · cases h2
  · cases h2; exact ⟨hlo, hb.lt⟩

theorem grownCap_mono (w : World) (need old : Nat) (e : TypeId) : need ≤ grownCap w need old e := grownCap_ge w need old e

/-- append onto a slice of the call's own (or nil), from wherever. -/
theorem vappend {P : Program} {t tx ty e : TypeId} {sz by_ : Nat} {z : Value} {H : Heap} {K : Value → Heap → Prop} (ht : SlT P t e sz by_ z) {lo n m : Nat} {v x : Value} {cs news : List Value}
    (hs : Sl H lo e sz v n cs) (hlo : lo ≤ H.size) (hx : ∀ w : World, w.heap = H → Src P sz tx x m news w) (h63 : n + m ≤ maxLen) (hby : (n + m) * by_ ≤ 140737488355328)
    (h : ∀ v' H', Sl H' lo e sz v' (n + m) (cs ++ news) → Agr (fun k => k < H.size ∧ ¬ slB v k) H H' → H.size ≤ H'.size → (∀ k, slB v' k → slB v k ∨ H.size ≤ k) → K v' H') :
    VEff P (Builtin.append_ #[t, tx] ty [v, x].toArray) H K := by
  refine VEff.mk fun w hw => ?_
  subst hw
  obtain ⟨inf, hi, hsi, hbi, hz⟩ := ht.info
  have hsrc := hx w rfl
  have hsrc' : Src P inf.size tx x m news w := by rw [hsi]; exact hsrc
  have hnl : news.length = m * sz := hsrc.newsLen
  have h63' : n + m ≤ 9223372036854775807 := by simp only [maxLen] at h63; omega
  obtain ⟨hcl, hs2⟩ := hs
  have hlen : (cs ++ news).length = (n + m) * sz := by rw [List.length_append, hcl, hnl, Nat.add_mul]
  have grow : ∀ (base : Option Addr) (cap : Nat), v = .slice base n cap → cap < n + m → (Builtin.firstCells inf.size n (.slice base n cap)).run P w.drew = .ok cs.toArray w.drew →
      ∃ v' w', (Builtin.append_ #[t, tx] ty [v, x].toArray).run P w = .ok v' w' ∧ Env w w' ∧ K v' w'.heap := by
    intro base cap hv hcap hold
    subst hv
    have hr := run_append_grow_src (P := P) w t tx ty e inf z ht.under hi hz base n cap cs hold x m news hsrc' hcap (by omega) (growslice_fits (by omega) (by rw [hbi]; exact hby))
    refine ⟨_, _, hr, ⟨rfl, rfl, rfl⟩, ?_⟩
    have hge := grownCap_ge w (n + m) cap e
    have hle := grownCap_le_maxLen w (n + m) cap e h63
    have hblk : Blk (w.drew.alloc (.cells ((cs ++ news).toArray ++ Builtin.zeroCells z.cells (grownCap w (n + m) cap e - (n + m))) e)).heap w.heap.size e
        ((cs ++ news) ++ (Builtin.zeroCells z.cells (grownCap w (n + m) cap e - (n + m))).toList) := by
      unfold Blk
      have : (w.drew.alloc (.cells ((cs ++ news).toArray ++ Builtin.zeroCells z.cells (grownCap w (n + m) cap e - (n + m))) e)).heap = w.heap.push (.cells ((cs ++ news).toArray ++ Builtin.zeroCells z.cells (grownCap w (n + m) cap e - (n + m))) e) := rfl
      rw [this]
      simp
    refine h _ _ ⟨hlen, .inr ⟨w.heap.size, _, _, rfl, hlo, hblk, hge, hle, ?_, ?_⟩⟩ ?_ ?_ ?_
    · rw [List.length_append, hlen, Array.length_toList, size_zeroCells, ht.zsz, ← Nat.add_mul]
      congr 1; omega
    · rw [← hlen, List.take_left']; rfl
    · intro k hk
      exact heap_push_old w.heap _ k hk.1
    · show w.heap.size ≤ (w.heap.push _).size
      simp
    · rintro k ⟨o, n', c, hk⟩
      cases hk
      exact .inr (Nat.le_refl _)
  rcases hs2 with ⟨rfl, rfl⟩ | ⟨b, cap, l, rfl, hlob, hb, hnc, hcm, hll, htake⟩
  · have hcs : cs = [] := List.eq_nil_of_length_eq_zero (by simpa using hcl)
    subst hcs
    by_cases hm : m = 0
    · subst hm
      have hn : news = [] := List.eq_nil_of_length_eq_zero (by simpa using hnl)
      subst hn
      refine ⟨.slice none 0 0, w, ?_, Env.refl w, h _ _ (Sl.nil _ _ _ _) (Agr.refl _ _) (Nat.le_refl _) (fun k hk => .inl hk)⟩
      rcases hsrc'.kind with ⟨e', hk⟩ | hk <;> simp [Builtin.append_, run_underlying ht.under, run_underlying hk, sizeOf, typeInfo, hi, hsrc'.len, hsrc'.cells]
    · exact grow none 0 rfl (by omega) (by simp [Builtin.firstCells])
  · by_cases hroom : n + m ≤ cap
    · have hfit : n * sz + news.length ≤ l.length := by rw [hnl, hll, ← Nat.add_mul]; exact Nat.mul_le_mul_right _ hroom
      have hr := run_append_room_src (P := P) w t tx ty e inf ht.under hi b 0 n cap x m news hsrc' hroom
        (fun j hj => by rw [cell_w, hb.cell]; simp [hsi]; omega) (fun j hj => frozen_blk hb)
      obtain ⟨h1, h2, h3, h4⟩ := setCells_blk news (0 + n * inf.size) l w hb (by rw [hsi]; omega)
      refine ⟨_, _, hr, h4, h _ _ ⟨hlen, .inr ⟨b, cap, _, rfl, hlob, h1, hroom, hcm, ?_, ?_⟩⟩ (h2.mono fun k hk => ?_) (by omega) ?_⟩
      · rw [splice_length (by rw [hsi]; omega)]; exact hll
      · rw [hsi, Nat.zero_add]
        unfold splice
        rw [htake, ← hlen, List.take_left']; rfl
      · intro hkb; subst hkb; exact hk.2 ⟨0, n, cap, rfl⟩
      · rintro k ⟨o, n', c, hk⟩
        cases hk
        exact .inl ⟨0, n, cap, rfl⟩
    · refine grow (some ⟨b, 0, none⟩) cap rfl (by omega) ?_
      have hc : Cells w.heap b 0 cs := hb.cells fun j v hv => by
        rw [← htake, List.getElem?_take] at hv
        split at hv
        · simpa using hv
        · cases hv
      have := run_firstCells_some (P := P) w.drew inf.size n ⟨b, 0, none⟩ n cap cs (by rw [hsi]; exact hcl) (fun j v hv => by
        rw [Addr.add_mid]
        have := range_w (w := w.drew) (H := w.heap) hc rfl j v hv
        exact this)
      exact this

end Go.VC
