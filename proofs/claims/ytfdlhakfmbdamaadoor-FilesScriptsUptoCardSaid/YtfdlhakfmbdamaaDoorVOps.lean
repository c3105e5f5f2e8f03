/- More operations: fields, arrays, strings, bits. -/
import Derived.Test.YtfdlhakfmbdamaaDoorVTy
import Derived.DeepKeys
set_option linter.unusedVariables false
set_option linter.unusedSimpArgs false
namespace Go.VC

theorem fa {P : Program} {s f off ft n b o : Nat} {S : Nat → Prop} {H : Heap} {K : Value → Prop} (ht : FieldT P s f off ft n) (k : K (.pointer (some ⟨b, o + off, none⟩))) :
    VDet P (Instr.fieldAt s (.pointer (some ⟨b, o, none⟩)) f) S H K := by
  obtain ⟨fs, fd, h1, h2, rfl, rfl⟩ := ht.under
  refine VDet.mk _ (fun w _ => ?_) k
  cases hi : P.info? fd.type with
  | none => have := ht.size; simp [hi] at this
  | some i =>
    have hs : i.size = n := by have := ht.size; simpa [hi] using this
    have hp := ht.pos
    have ha : (⟨b, o, none⟩ : Addr).add fd.offset = ⟨b, o + fd.offset, none⟩ := Addr.add_mid _ _ _
    simp [Instr.fieldAt, run_underlying h1, h2, Instr.sureAddr, fieldPlace, sizeOf, typeInfo, hi, hs, hp, ha]

theorem ixa {P : Program} {t len e sz b o : Nat} {k : IntKind} {i : Int} {S : Nat → Prop} {H : Heap} {K : Value → Prop} (ht : ArrT P t len e sz) (h0 : 0 ≤ i) (h1 : i < len)
    (hk : K (.pointer (some ⟨b, o + i.toNat * sz, none⟩))) : VDet P (Instr.indexAt t (.pointer (some ⟨b, o, none⟩)) (.int k i)) S H K := by
  refine VDet.mk _ (fun w _ => ?_) hk
  cases hi : P.info? e with
  | none => have := ht.size; simp [hi] at this
  | some inf =>
    have hs : inf.size = sz := by have := ht.size; simpa [hi] using this
    have ha : (⟨b, o, none⟩ : Addr).add (i.toNat * sz) = ⟨b, o + i.toNat * sz, none⟩ := Addr.add_mid _ _ _
    simp [Instr.indexAt, asIntOf, run_underlying ht.under, Instr.sureAddr, h0, h1, sizeOf, typeInfo, hi, hs, ha]

theorem run_part1 {P : Program} {t off : Nat} {cs : Array Value} {v : Value} (ht : CellT P t) (hv : cs[off]? = some v) (w : World) : (part t cs off).run P w = .ok v w := by
  obtain ⟨d, hu, hd⟩ := ht.under
  have hagg : (isAgg t).run P w = .ok false w := by
    unfold isAgg
    rw [Sem.run_bind, run_underlying hu w]
    cases d <;> simp_all
  simp [part, hagg, hv]
theorem run_partN {P : Program} {t off n : Nat} {cs : Array Value} (ht : AggT P t n) (w : World) : (part t cs off).run P w = .ok (.agg (cs.extract off (off + n))) w := by
  obtain ⟨d, hu, hd⟩ := ht.under
  have hagg : (isAgg t).run P w = .ok true w := by
    unfold isAgg
    rw [Sem.run_bind, run_underlying hu w]
    cases d <;> simp_all
  cases hi : P.info? t with
  | none => have := ht.size; simp [hi] at this
  | some i =>
    have hs : i.size = n := by have := ht.size; simpa [hi] using this
    simp [part, hagg, sizeOf, typeInfo, hi, hs]

theorem fld1 {P : Program} {s f off ft n : Nat} {cs : Array Value} {v : Value} {S : Nat → Prop} {H : Heap} {K : Value → Prop} (ht : FieldT P s f off ft n) (hc : CellT P ft) (hv : cs[off]? = some v) (k : K v) :
    VDet P (Instr.field s (.agg cs) f) S H K := by
  obtain ⟨fs, fd, h1, h2, rfl, rfl⟩ := ht.under
  refine VDet.mk _ (fun w _ => ?_) k
  simp [Instr.field, run_underlying h1, h2, asAgg, run_part1 hc hv]
theorem fldN {P : Program} {s f off ft n : Nat} {cs : Array Value} {S : Nat → Prop} {H : Heap} {K : Value → Prop} (ht : FieldT P s f off ft n) (hc : AggT P ft n) (k : K (.agg (cs.extract off (off + n)))) :
    VDet P (Instr.field s (.agg cs) f) S H K := by
  obtain ⟨fs, fd, h1, h2, rfl, rfl⟩ := ht.under
  refine VDet.mk _ (fun w _ => ?_) k
  simp [Instr.field, run_underlying h1, h2, asAgg, run_partN hc]
theorem ixv1 {P : Program} {t len e sz : Nat} {k : IntKind} {i : Int} {cs : Array Value} {v : Value} {S : Nat → Prop} {H : Heap} {K : Value → Prop} (ht : ArrT P t len e sz) (hc : CellT P e) (h0 : 0 ≤ i) (h1 : i < len)
    (hv : cs[i.toNat * sz]? = some v) (hk : K v) : VDet P (Instr.index t (.agg cs) (.int k i)) S H K := by
  refine VDet.mk _ (fun w _ => ?_) hk
  cases hi : P.info? e with
  | none => have := ht.size; simp [hi] at this
  | some inf =>
    have hs : inf.size = sz := by have := ht.size; simpa [hi] using this
    simp [Instr.index, asIntOf, run_underlying ht.under, h0, h1, sizeOf, typeInfo, hi, hs, run_part1 hc hv]
theorem ixs {P : Program} {t : Nat} {k : IntKind} {i : Int} {s : ByteArray} {c : UInt8} {S : Nat → Prop} {H : Heap} {K : Value → Prop} (ht : P.underlying t = some .string) (h0 : 0 ≤ i) (hc : s[i.toNat]? = some c)
    (hk : K (.int .u8 c.toNat)) : VDet P (Instr.index t (.string s) (.int k i)) S H K := by
  refine VDet.mk _ (fun w _ => ?_) hk
  simp [Instr.index, asIntOf, run_underlying ht, h0, hc]

theorem vbuildA {P : Program} {t len e sz : Nat} {vs : Array (Nat × Value)} {S : Nat → Prop} {H : Heap} {K : Value → Prop} (ht : ArrT P t len e sz) (z : Value) (hz : (P.info? t).bind (·.zero) = some z) (l : List Value)
    (hf : Instr.fill (fun i => some (i * sz, sz)) z.cells vs.toList = some l.toArray) (k : K (.agg l.toArray)) : VDet P (Instr.build t vs) S H K := by
  refine VDet.mk _ (fun w _ => ?_) k
  cases hi : P.info? e with
  | none => have := ht.size; simp [hi] at this
  | some inf =>
    have hs : inf.size = sz := by have := ht.size; simpa [hi] using this
    cases ht' : P.info? t with
    | none => rw [ht'] at hz; cases hz
    | some it =>
      have hz' : it.zero = some z := by simpa [ht'] using hz
      simp [Instr.build, zeroValue, typeInfo, ht', hz', run_underlying ht.under, sizeOf, hi, hs, hf]
theorem vbuildS {P : Program} {t : Nat} {fs : Array Field} {vs : Array (Nat × Value)} {S : Nat → Prop} {H : Heap} {K : Value → Prop} (ht : P.underlying t = some (.struct fs)) (hfs : fs.toList.all (fun f => (P.info? f.type).isSome) = true)
    (z : Value) (hz : (P.info? t).bind (·.zero) = some z) (l : List Value)
    (hf : Instr.fill (fun i => (fs.toList.map fun f => (f.offset, P.cellsOf f.type))[i]?) z.cells vs.toList = some l.toArray) (k : K (.agg l.toArray)) : VDet P (Instr.build t vs) S H K := by
  refine VDet.mk _ (fun w _ => ?_) k
  cases ht' : P.info? t with
  | none => rw [ht'] at hz; cases hz
  | some it =>
    have hz' : it.zero = some z := by simpa [ht'] using hz
    have hm : ∀ (l : List Field), l.all (fun f => (P.info? f.type).isSome) = true → (l.mapM fun f => (do pure (f.offset, ← sizeOf f.type) : Sem (Nat × Nat))).run P w = .ok (l.map fun f => (f.offset, P.cellsOf f.type)) w := by
      intro l
      induction l with
      | nil => intro _; simp
      | cons f l ih =>
        intro h
        simp only [List.all_cons, Bool.and_eq_true] at h
        obtain ⟨inf, hi⟩ := Option.isSome_iff_exists.1 h.1
        have hsz : (sizeOf f.type).run P w = .ok (P.cellsOf f.type) w := by simp [sizeOf, typeInfo, hi, Program.cellsOf]
        simp only [List.mapM_cons, Sem.run_bind, hsz, Result.andThen_ok, Sem.run_pure, ih h.2, List.map_cons]
    have hm' : (fs.mapM fun f => (do pure (f.offset, ← sizeOf f.type) : Sem (Nat × Nat))).run P w = .ok (fs.toList.map fun f => (f.offset, P.cellsOf f.type)).toArray w := by
      rw [Array.mapM_eq_mapM_toList]
      rw [show (List.toArray <$> fs.toList.mapM fun f => (do pure (f.offset, ← sizeOf f.type) : Sem (Nat × Nat))) = (do let l ← fs.toList.mapM fun f => (do pure (f.offset, ← sizeOf f.type) : Sem (Nat × Nat)); pure l.toArray) from rfl]
      rw [Sem.run_bind, hm _ hfs]
      simp
    have hzv : (zeroValue t).run P w = .ok z w := by simp [zeroValue, typeInfo, ht', hz']
    simp only [Instr.build, Sem.run_bind, hzv, Result.andThen_ok, run_underlying ht]
    rw [hm']
    simp only [Result.andThen_ok, List.getElem?_toArray, hf, Sem.run_pure]

theorem vmake1 {P : Program} {t e : TypeId} {by_ : Nat} {z : Value} {kl kc : IntKind} {l c : Int} {H : Heap} {K : Value → Heap → Prop} (ht : SlT P t e 1 by_ z) (hz : z.oneCell' = true) (h0 : 0 ≤ l) (hlc : l ≤ c) (hb : (by_ : Int) * c ≤ 281474976710656)
    (h63 : c ≤ 9223372036854775807)
    (h : New H (fun b H' => K (.slice (some ⟨b, 0, none⟩) l.toNat c.toNat) H') e (List.replicate c.toNat z)) : VEff P (Instr.makeSlice t (.int kl l) (.int kc c)) H K := by
  refine vmake ht h0 hlc hb h63 ?_
  have hcs : z.cells = #[z] := by cases z <;> simp_all [Value.cells, Value.oneCell']
  have e1 : ((List.range (c.toNat * 1)).map (z.cells[· % z.cells.size]!)) = List.replicate c.toNat z := by
    rw [hcs, Nat.mul_one]
    apply List.ext_getElem?
    intro i
    simp only [List.getElem?_map, List.getElem?_replicate]
    by_cases hi : i < c.toNat
    · rw [List.getElem?_range hi, if_pos hi]; simp [Nat.mod_one]
    · rw [List.getElem?_eq_none (by simpa using hi), if_neg hi]; rfl
  rw [e1]
  exact h

/-! ### bits -/
theorem wrap_in {k : IntKind} {x : Int} (h : inK k x) : k.wrap x = x := by
  obtain ⟨h1, h2⟩ := h
  unfold IntKind.wrap
  cases k <;> simp only [IntKind.min, IntKind.max, IntKind.signed, IntKind.bits, if_true, Bool.false_eq_true, if_false, Nat.reduceSub, Nat.reducePow, Int.reducePow] at h1 h2 ⊢ <;> simp only [Bool.true_and, Bool.false_and, decide_eq_true_eq, Bool.false_eq_true, if_false, ge_iff_le] <;> (try split) <;> omega
theorem w64 {x : Int} (h0 : -9223372036854775808 ≤ x) (h1 : x ≤ 9223372036854775807) : IntKind.wrap .i64 x = x := wrap_in ⟨h0, h1⟩
theorem w8 {x : Int} (h0 : 0 ≤ x) (h1 : x ≤ 255) : IntKind.wrap .u8 x = x := wrap_in ⟨h0, h1⟩
theorem inK_bits {k : IntKind} {x : Nat} (h : inK k (x : Int)) : x < 2 ^ k.bits := by
  obtain ⟨_, h2⟩ := h
  cases k <;> simp only [IntKind.max, IntKind.signed, IntKind.bits, if_true, Bool.false_eq_true, if_false, Nat.reduceSub, Nat.reducePow, Int.reducePow] at h2 ⊢ <;> omega
theorem inK_le {k : IntKind} {x y : Nat} (h : inK k (x : Int)) (hy : y ≤ x) : inK k (y : Int) := by
  obtain ⟨_, h2⟩ := h
  refine ⟨?_, by omega⟩
  cases k <;> simp only [IntKind.min, IntKind.signed, IntKind.bits, if_true, Bool.false_eq_true, if_false, Nat.reduceSub, Int.reducePow] <;> omega

theorem inU64 {x : Nat} (h : x < 18446744073709551616) : inK .u64 (x : Int) := ⟨by simp [IntKind.min, IntKind.signed], by simp [IntKind.max, IntKind.signed, IntKind.bits]; omega⟩
theorem inI64 {x : Nat} (h : x < 9223372036854775808) : inK .i64 (x : Int) := by
  refine ⟨?_, by simp [IntKind.max, IntKind.signed, IntKind.bits]; omega⟩
  have : IntKind.i64.min = -9223372036854775808 := by decide
  omega
theorem inU8 {x : Nat} (h : x < 256) : inK .u8 (x : Int) := ⟨by simp [IntKind.min, IntKind.signed], by simp [IntKind.max, IntKind.signed, IntKind.bits]; omega⟩
theorem vand {P : Program} {t : TypeId} {x y : Operand} {k : IntKind} {a b : Nat} {S : Nat → Prop} {H : Heap} {K : Value → Prop} (ha : inK k (a : Int)) (hb : inK k (b : Int)) (hk : K (.int k ((a &&& b : Nat) : Int))) :
    VDet P (do eqGuard .and t x y (.int k a) (.int k b); binOp .and t (.int k a) (.int k b)) S H K := by
  refine VDet.mk _ (fun w _ => ?_) hk
  have e1 : (BitVec.ofInt k.bits (a : Int) &&& BitVec.ofInt k.bits (b : Int)).toNat = a &&& b := by
    simp only [BitVec.ofInt_natCast, BitVec.toNat_and, BitVec.toNat_ofNat, Nat.mod_eq_of_lt (inK_bits ha), Nat.mod_eq_of_lt (inK_bits hb)]
  simp [run_eqGuard_int, binOp, Op.intBits, Nat.mod_eq_of_lt (inK_bits ha), Nat.mod_eq_of_lt (inK_bits hb), wrap_in (inK_le ha (Nat.and_le_left))]
theorem or_inK {k : IntKind} {a b : Nat} (ha : inK k (a : Int)) (hb : inK k (b : Int)) : inK k ((a ||| b : Nat) : Int) := by
  obtain ⟨h1, h2⟩ := ha
  obtain ⟨h3, h4⟩ := hb
  refine ⟨?_, ?_⟩
  · cases k <;> simp only [IntKind.min, IntKind.signed, IntKind.bits, if_true, Bool.false_eq_true, if_false, Nat.reduceSub, Int.reducePow] <;> omega
  · cases k <;> simp only [IntKind.max, IntKind.signed, IntKind.bits, if_true, Bool.false_eq_true, if_false, Nat.reduceSub, Int.reducePow] at h2 h4 ⊢
    · have := Nat.or_lt_two_pow (n := 7) (x := a) (y := b) (by omega) (by omega); omega
    · have := Nat.or_lt_two_pow (n := 15) (x := a) (y := b) (by omega) (by omega); omega
    · have := Nat.or_lt_two_pow (n := 31) (x := a) (y := b) (by omega) (by omega); omega
    · have := Nat.or_lt_two_pow (n := 63) (x := a) (y := b) (by omega) (by omega); omega
    · have := Nat.or_lt_two_pow (n := 8) (x := a) (y := b) (by omega) (by omega); omega
    · have := Nat.or_lt_two_pow (n := 16) (x := a) (y := b) (by omega) (by omega); omega
    · have := Nat.or_lt_two_pow (n := 32) (x := a) (y := b) (by omega) (by omega); omega
    · have := Nat.or_lt_two_pow (n := 64) (x := a) (y := b) (by omega) (by omega); omega
theorem vor {P : Program} {t : TypeId} {x y : Operand} {k : IntKind} {a b : Nat} {S : Nat → Prop} {H : Heap} {K : Value → Prop} (ha : inK k (a : Int)) (hb : inK k (b : Int)) (hk : K (.int k ((a ||| b : Nat) : Int))) :
    VDet P (do eqGuard .or t x y (.int k a) (.int k b); binOp .or t (.int k a) (.int k b)) S H K := by
  refine VDet.mk _ (fun w _ => ?_) hk
  have e1 : (BitVec.ofInt k.bits (a : Int) ||| BitVec.ofInt k.bits (b : Int)).toNat = a ||| b := by
    simp only [BitVec.ofInt_natCast, BitVec.toNat_or, BitVec.toNat_ofNat, Nat.mod_eq_of_lt (inK_bits ha), Nat.mod_eq_of_lt (inK_bits hb)]
  simp [run_eqGuard_int, binOp, Op.intBits, Nat.mod_eq_of_lt (inK_bits ha), Nat.mod_eq_of_lt (inK_bits hb), wrap_in (or_inK ha hb)]
theorem vshr {P : Program} {t : TypeId} {x y : Operand} {k k' : IntKind} {a b : Nat} {S : Nat → Prop} {H : Heap} {K : Value → Prop} (hb : b ≤ k.bits) (hk : K (.int k ((a / 2 ^ b : Nat) : Int))) :
    VDet P (do eqGuard .shr t x y (.int k a) (.int k' b); binOp .shr t (.int k a) (.int k' b)) S H K := by
  refine VDet.mk _ (fun w _ => ?_) hk
  have e1 : ((a : Int).fdiv (2 ^ b)) = ((a / 2 ^ b : Nat) : Int) := by
    rw [Int.fdiv_eq_ediv_of_nonneg _ (by exact_mod_cast Nat.zero_le _)]
    push_cast; rfl
  have e2 : min b k.bits = b := Nat.min_eq_left hb
  have e3 : ¬ ((b : Int) < 0) := by omega
  simp [run_eqGuard_int, binOp, Op.shift, e2, e3, e1]
theorem vshl {P : Program} {t : TypeId} {x y : Operand} {k k' : IntKind} {a b : Nat} {S : Nat → Prop} {H : Heap} {K : Value → Prop} (hb : b ≤ k.bits) (hin : inK k ((a * 2 ^ b : Nat) : Int)) (hk : K (.int k ((a * 2 ^ b : Nat) : Int))) :
    VDet P (do eqGuard .shl t x y (.int k a) (.int k' b); binOp .shl t (.int k a) (.int k' b)) S H K := by
  refine VDet.mk _ (fun w _ => ?_) hk
  have e2 : min b k.bits = b := Nat.min_eq_left hb
  have e3 : ¬ ((b : Int) < 0) := by omega
  have e4 : (a : Int) * 2 ^ b = ((a * 2 ^ b : Nat) : Int) := by push_cast; rfl
  simp only [run_eqGuard_int, binOp, Op.shift, Sem.run_bind, Result.andThen_ok, e3, if_false, Int.toNat_natCast, e2, e4, wrap_in hin, Sem.run_pure]

/-! ### equality of structs and arrays -/
theorem run_eq_agg {P : Program} {t m D D' : Nat} {as bs : Array Value} {la lb : List Lit} (hk : P.keyTypeAt m t = true) (hm : m ≤ 10000) (hg : P.eqGuardType P.depth t = false)
    (fa : (Value.agg as).formed P t = true) (fb : (Value.agg bs).formed P t = true) (ha : P.keyLits D t as.toList = some la) (hb : P.keyLits D' t bs.toList = some lb) {r : Bool} (hr : r = true ↔ la = lb)
    {op : BinOp} (hop : op = .eql ∨ op = .neq) (x y : Operand) (w : World) :
    (do eqGuard op t x y (.agg as) (.agg bs); binOp op t (.agg as) (.agg bs) : Sem Value).run P w = .ok (.bool (if op matches .eql then r else !r)) w := by
  obtain ⟨r', h1, h2⟩ := run_equalIn_deep (10000 - m) m t hk w D D' (.agg as) (.agg bs) la lb fa fb ha hb
  rw [show 10000 - m + m = 10000 by omega] at h1
  have hrr : r' = r := by rw [Bool.eq_iff_iff, h2, hr]
  subst hrr
  have hp : program.run P w = .ok P w := rfl
  rcases hop with rfl | rfl <;> simp [eqGuard, hp, hg, binOp, Op.equal, Op.maxDepth, h1]
theorem veq {P : Program} {t m D D' : Nat} {as bs : Array Value} {la lb : List Lit} {x y : Operand} {S : Nat → Prop} {H : Heap} {K : Value → Prop} (hk : P.keyTypeAt m t = true) (hm : m ≤ 10000) (hg : P.eqGuardType P.depth t = false)
    (fa : (Value.agg as).formed P t = true) (fb : (Value.agg bs).formed P t = true) (ha : P.keyLits D t as.toList = some la) (hb : P.keyLits D' t bs.toList = some lb) {r : Bool} (hr : r = true ↔ la = lb) (k : K (.bool r)) :
    VDet P (do eqGuard .eql t x y (.agg as) (.agg bs); binOp .eql t (.agg as) (.agg bs)) S H K :=
  VDet.mk _ (fun w _ => run_eq_agg hk hm hg fa fb ha hb hr (.inl rfl) x y w) k
theorem vneq {P : Program} {t m D D' : Nat} {as bs : Array Value} {la lb : List Lit} {x y : Operand} {S : Nat → Prop} {H : Heap} {K : Value → Prop} (hk : P.keyTypeAt m t = true) (hm : m ≤ 10000) (hg : P.eqGuardType P.depth t = false)
    (fa : (Value.agg as).formed P t = true) (fb : (Value.agg bs).formed P t = true) (ha : P.keyLits D t as.toList = some la) (hb : P.keyLits D' t bs.toList = some lb) {r : Bool} (hr : r = true ↔ la = lb) (k : K (.bool (!r))) :
    VDet P (do eqGuard .neq t x y (.agg as) (.agg bs); binOp .neq t (.agg as) (.agg bs)) S H K :=
  VDet.mk _ (fun w _ => run_eq_agg hk hm hg fa fb ha hb hr (.inr rfl) x y w) k

/-! ### calls that change nothing that was there -/
/-- It returns v, and all that was there stays. -/
def Pure (P : Program) (f : FuncId) (args : Array Value) (H : Heap) (v : Value) : Prop :=
  FnOk P f args H fun v' H' => v' = v ∧ Agr (fun k => k < H.size) H H'
/-- All old blocks. -/
def Old (H : Heap) (k : Nat) : Prop := k < H.size
theorem old_lt {H H' : Heap} (h : Agr (Old H) H H') {k : Nat} (hk : Old H k) : k < H'.size := by
  have h1 := h k hk
  unfold Old at hk
  rw [Array.getElem?_eq_getElem hk] at h1
  exact (Array.getElem?_eq_some_iff.1 h1).1
theorem old_size {H H' : Heap} (h : Agr (Old H) H H') : H.size ≤ H'.size := agr_size h (Nat.le_refl _)
theorem pureq {P : Program} {f : FuncId} {args : Array Value} {H : Heap} {K : Value → Prop} {v : Value}
    (h : ∀ H', Agr (Old H) H H' → Pure P f args H' v) (k : K v) : VCallQ P f args (Old H) H K :=
  VCallQ.mk v (fun H' hH' => (h H' hH').mono fun v' H'' ⟨e, ha⟩ => ⟨e, ha.mono fun k hk => old_lt hH' hk⟩) k
theorem pures {P : Program} {f : FuncId} {args : Array Value} {H : Heap} {K : Value → Heap → Prop} {v : Value}
    (h : Pure P f args H v) (k : ∀ H', Agr (Old H) H H' → K v H') : VCall P f args H K :=
  VCall.mk h fun v' H' ⟨e, ha⟩ => by subst e; exact k H' ha

end Go.VC
