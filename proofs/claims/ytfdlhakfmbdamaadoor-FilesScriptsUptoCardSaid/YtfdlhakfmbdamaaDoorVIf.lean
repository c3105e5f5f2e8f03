/- Interface values: asking for their type, comparing with nil, calling their methods. -/
import Derived.Test.YtfdlhakfmbdamaaDoorVMem
import Derived.Test.YtfdlhakfmbdamaaDoorVFacts
set_option linter.unusedVariables false
set_option linter.unusedSimpArgs false
namespace Go.VC
section
variable {P : Program} {t : TypeId} {x y : Operand} {S : Nat → Prop} {H : Heap} {K : Value → Prop} {T A : TypeId} {v z : Value} {d : TypeDesc}
theorem vta_yes (hd : P.underlying A = some d) (hn : ∀ ms, d ≠ .interface ms) (k : K (.tuple #[v, .bool true])) : VDet P (Instr.typeAssert (.iface A v) t A true) S H K := by
  refine VDet.mk _ (fun w _ => ?_) k
  unfold Instr.typeAssert
  simp only [Sem.run_bind, run_underlying hd, Result.andThen_ok]
  cases d <;> first | (exact absurd rfl (hn _)) | simp
theorem vta_no (hd : P.underlying A = some d) (hn : ∀ ms, d ≠ .interface ms) (hz : (P.info? A).bind (·.zero) = some z) (hne : T ≠ A) (k : K (.tuple #[z, .bool false])) : VDet P (Instr.typeAssert (.iface T v) t A true) S H K := by
  refine VDet.mk _ (fun w _ => ?_) k
  have hzr : (zeroValue A).run P w = .ok z w := by
    cases hi : P.info? A with
    | none => rw [hi] at hz; cases hz
    | some i =>
      have hz' : i.zero = some z := by simpa [hi] using hz
      simp [zeroValue, typeInfo, hi, hz']
  unfold Instr.typeAssert
  simp only [Sem.run_bind, run_underlying hd, Result.andThen_ok]
  cases d <;> first | (exact absurd rfl (hn _)) | simp [hne, hzr]
theorem vta_nil (hd : P.underlying A = some d) (hn : ∀ ms, d ≠ .interface ms) (hz : (P.info? A).bind (·.zero) = some z) (k : K (.tuple #[z, .bool false])) : VDet P (Instr.typeAssert .nilIface t A true) S H K := by
  refine VDet.mk _ (fun w _ => ?_) k
  have hzr : (zeroValue A).run P w = .ok z w := by
    cases hi : P.info? A with
    | none => rw [hi] at hz; cases hz
    | some i =>
      have hz' : i.zero = some z := by simpa [hi] using hz
      simp [zeroValue, typeInfo, hi, hz']
  unfold Instr.typeAssert
  simp only [Sem.run_bind, run_underlying hd, Result.andThen_ok]
  cases d <;> first | (exact absurd rfl (hn _)) | simp [hzr]
theorem run_if_nil {ms : Array (String × TypeId)} (h : P.underlying t = some (.interface ms)) (w : World) : (Op.equal t (.iface T v) .nilIface).run P w = .ok false w := by
  have : ∀ d : Nat, (Op.equalIn (d + 1) t (.iface T v) .nilIface).run P w = .ok false w := fun d => by
    simp [Op.equalIn, run_underlying h]
  exact this 9999
theorem run_nil_nil {ms : Array (String × TypeId)} (h : P.underlying t = some (.interface ms)) (w : World) : (Op.equal t .nilIface .nilIface).run P w = .ok true w := by
  have : ∀ d : Nat, (Op.equalIn (d + 1) t .nilIface .nilIface).run P w = .ok true w := fun d => by
    simp [Op.equalIn, run_underlying h]
  exact this 9999
theorem ifeq {ms : Array (String × TypeId)} (h : P.underlying t = some (.interface ms)) (k : K (.bool false)) : VDet P (do eqGuard .eql t x y (.iface T v) .nilIface; binOp .eql t (.iface T v) .nilIface) S H K := by
  refine VDet.mk _ (fun w _ => ?_) k
  simp [eqGuard, binOp, run_if_nil h]
theorem ifneq {ms : Array (String × TypeId)} (h : P.underlying t = some (.interface ms)) (k : K (.bool true)) : VDet P (do eqGuard .neq t x y (.iface T v) .nilIface; binOp .neq t (.iface T v) .nilIface) S H K := by
  refine VDet.mk _ (fun w _ => ?_) k
  simp [eqGuard, binOp, run_if_nil h]
theorem ifeqN {ms : Array (String × TypeId)} {c : Value} (h : P.underlying t = some (.interface ms)) (k : K (.bool true)) : VDet P (do eqGuard .eql t x (.const c) .nilIface .nilIface; binOp .eql t .nilIface .nilIface) S H K := by
  refine VDet.mk _ (fun w _ => ?_) k
  simp [eqGuard, binOp, run_nil_nil h]
theorem ifneqN {ms : Array (String × TypeId)} {c : Value} (h : P.underlying t = some (.interface ms)) (k : K (.bool false)) : VDet P (do eqGuard .neq t x (.const c) .nilIface .nilIface; binOp .neq t .nilIface .nilIface) S H K := by
  refine VDet.mk _ (fun w _ => ?_) k
  simp [eqGuard, binOp, run_nil_nil h]
end
end Go.VC
namespace Go.Proofs.YtfdlhakfmbdamaaDoor
open Go.VC
end Go.Proofs.YtfdlhakfmbdamaaDoor
