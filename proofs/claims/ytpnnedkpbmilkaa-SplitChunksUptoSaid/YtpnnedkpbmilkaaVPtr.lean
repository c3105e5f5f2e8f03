/- Comparing with nil, bools; texts' bytes. -/
import Derived.Test.YtpnnedkpbmilkaaVApp
import Derived.Laws.Pointers
set_option linter.unusedVariables false
set_option linter.unusedSimpArgs false
namespace Go.VC
section
variable {P : Program} {t e : TypeId} {x y : Operand} {S : Nat → Prop} {H : Heap} {K : Value → Prop} {p : Option Addr}
theorem run_ptr_nil (h : P.underlying t = some (.pointer e)) (p : Option Addr) (w : World) : (Op.equal t (.pointer p) (.pointer none)).run P w = .ok p.isNone w := by
  have : ∀ d : Nat, (Op.equalIn (d + 1) t (.pointer p) (.pointer none)).run P w = .ok p.isNone w := fun d => by
    cases p <;> simp [Op.equalIn, run_underlying h]
  exact this 9999
theorem peq (h : P.underlying t = some (.pointer e)) (k : K (.bool p.isNone)) : VDet P (do eqGuard .eql t x y (.pointer p) (.pointer none); binOp .eql t (.pointer p) (.pointer none)) S H K := by
  refine VDet.mk _ (fun w _ => ?_) k
  simp [eqGuard, binOp, run_ptr_nil h]
theorem pneq (h : P.underlying t = some (.pointer e)) (k : K (.bool (!p.isNone))) : VDet P (do eqGuard .neq t x y (.pointer p) (.pointer none); binOp .neq t (.pointer p) (.pointer none)) S H K := by
  refine VDet.mk _ (fun w _ => ?_) k
  simp [eqGuard, binOp, run_ptr_nil h]
theorem peqN (h : P.underlying t = some (.pointer e)) (k : K (.bool true)) : VDet P (do eqGuard .eql t x y (.pointer none) (.pointer none); binOp .eql t (.pointer none) (.pointer none)) S H K := peq h k
theorem peqS {a : Addr} (h : P.underlying t = some (.pointer e)) (k : K (.bool false)) : VDet P (do eqGuard .eql t x y (.pointer (some a)) (.pointer none); binOp .eql t (.pointer (some a)) (.pointer none)) S H K := peq h k
theorem pneqN (h : P.underlying t = some (.pointer e)) (k : K (.bool false)) : VDet P (do eqGuard .neq t x y (.pointer none) (.pointer none); binOp .neq t (.pointer none) (.pointer none)) S H K := pneq h k
theorem pneqS {a : Addr} (h : P.underlying t = some (.pointer e)) (k : K (.bool true)) : VDet P (do eqGuard .neq t x y (.pointer (some a)) (.pointer none); binOp .neq t (.pointer (some a)) (.pointer none)) S H K := pneq h k
theorem run_bool_eq (h : P.underlying t = some .bool) (a b : Bool) (w : World) : (Op.equal t (.bool a) (.bool b)).run P w = .ok (a == b) w := by
  have : ∀ d : Nat, (Op.equalIn (d + 1) t (.bool a) (.bool b)).run P w = .ok (a == b) w := fun d => by simp [Op.equalIn, run_underlying h]
  exact this 9999
theorem beq_b {a b : Bool} (h : P.underlying t = some .bool) (k : K (.bool (a == b))) : VDet P (do eqGuard .eql t x y (.bool a) (.bool b); binOp .eql t (.bool a) (.bool b)) S H K := by
  refine VDet.mk _ (fun w _ => ?_) k
  simp [eqGuard, binOp, run_bool_eq h]
theorem bneq_b {a b : Bool} (h : P.underlying t = some .bool) (k : K (.bool (!(a == b)))) : VDet P (do eqGuard .neq t x y (.bool a) (.bool b); binOp .neq t (.bool a) (.bool b)) S H K := by
  refine VDet.mk _ (fun w _ => ?_) k
  simp [eqGuard, binOp, run_bool_eq h]
end

/-- A text's byte. -/
theorem vidxs {P : Program} {t : TypeId} {S : Nat → Prop} {H : Heap} {K : Value → Prop} {s : ByteArray} {k : IntKind} {i : Nat} {j : Int} {b : UInt8} (h : P.underlying t = some .string) (hj : j = (i : Int)) (hb : s.data[i]? = some b)
    (hk : K (.int .u8 (b.toNat : Int))) : VDet P (Instr.index t (.string s) (.int k j)) S H K := by
  subst hj
  have hb' : s[i]? = some b := by
    obtain ⟨h1, h2⟩ := Array.getElem?_eq_some_iff.1 hb
    have h3 : i < s.size := h1
    rw [getElem?_pos s i h3]
    exact congrArg some h2
  refine VDet.mk _ (fun w _ => ?_) hk
  simp [Instr.index, asIntOf, run_underlying h, hb']

end Go.VC
