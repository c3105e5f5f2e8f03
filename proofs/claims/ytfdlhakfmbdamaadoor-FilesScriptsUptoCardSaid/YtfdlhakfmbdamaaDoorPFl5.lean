/- louperef25.Say, PathError.Error: the walks. -/
import Derived.Test.YtfdlhakfmbdamaaDoorPFl4
set_option linter.unusedVariables false
set_option linter.unusedSimpArgs false
set_option maxRecDepth 100000
namespace Go.Proofs.YtfdlhakfmbdamaaDoor
open Go.VC
theorem bA8_size (l : List Nat) : (bA8 l).size = l.length := by unfold bA8; simp [ByteArray.size]
theorem quote_len (s : ByteArray) : (quoteM s).length ≤ 2 + 4 * s.size := by
  unfold quoteM
  have := qL_len s s.size (Nat.le_refl _)
  rw [List.length_append, List.length_singleton]
  omega
/-- A refusal in words. -/
def sayM (op name t : ByteArray) : ByteArray := op ++ ⟨#[32]⟩ ++ bA8 (quoteM name) ++ ⟨#[58, 32]⟩ ++ t
theorem causeT_size (n : Nat) : (causeT n).size ≤ 8 := by
  unfold causeT
  split <;> decide
set_option maxHeartbeats 4000000 in
theorem say_p {H : Heap} {op name : ByteArray} {n : Nat} (hop : op.size ≤ 4194304) (hnm : name.size ≤ 4194304) (hn : n < 5) : Pure Tryd.prog 29 #[.string op, .string name, .int .i64 (n : Int)] H (.string (sayM op name (causeT n))) := by
  have hq := quote_len name
  have hz := bA8_size (quoteM name)
  have hc := causeT_size n
  have h32 : (⟨#[32]⟩ : ByteArray).size = 1 := rfl
  have h58 : (⟨#[58, 32]⟩ : ByteArray).size = 2 := rfl
  refine FnOk.of_vc Tryd.func29 rfl (Tryd.call29 _) ?_
  (conv => whnf); refine vcat (by rw [h32]; unfold maxLen; omega) ?_
  (conv => whnf); refine pures (rquote_p hnm) fun H1 ha1 => ?_
  (conv => whnf); refine vcat (by rw [ByteArray.size_append, h32, hz]; unfold maxLen; omega) ?_
  (conv => whnf); refine vcat (by rw [ByteArray.size_append, ByteArray.size_append, h32, h58, hz]; unfold maxLen; omega) ?_
  (conv => whnf); refine pures (cause_p hn) fun H2 ha2 => ?_
  (conv => whnf); refine vcat (by rw [ByteArray.size_append, ByteArray.size_append, ByteArray.size_append, h32, h58, hz]; unfold maxLen; omega) ?_
  (conv => whnf)
  exact ⟨rfl, ha1.trans (ha2.mono fun k hk => old_lt ha1 hk)⟩
def peL (op name : ByteArray) (e eo : Nat) : List Value := [.string op, .string name, .iface 141 (.pointer (some ⟨e, eo, none⟩))]
theorem m_err (x : Value) (w : World) : (callMethod (.iface 141 x) "Error" #[]).run Tryd.prog w = .ok (.enter 87 #[x]) w := by kernel_rfl
set_option maxHeartbeats 4000000 in
theorem perr_p {H : Heap} {p e eo : Nat} {op name t : ByteArray} (hp : Blk H p 85 (peL op name e eo)) (he : VC.cell H e eo = some (.string t)) (hel : e < H.size) (hop : op.size ≤ 4194304) (hnm : name.size ≤ 4194304) (ht : t.size ≤ 4194304) :
    Pure Tryd.prog 18 #[.pointer (some ⟨p, 0, none⟩)] H (.string (sayM op name t)) := by
  have hq := quote_len name
  have hz := bA8_size (quoteM name)
  have h32 : (⟨#[32]⟩ : ByteArray).size = 1 := rfl
  have h58 : (⟨#[58, 32]⟩ : ByteArray).size = 2 := rfl
  refine FnOk.of_vc Tryd.func18 rfl (Tryd.call18 _) ?_
  (conv => whnf); refine VDraw.held (Old H) 18 (sq [0,1,2,3,4,5,6,7,8,12,13,14,15] (.f 9 (sq [10,11] (.f 16 (sq [17] (.f 18 .e)))))) rfl (by kernel_rfl) ?_
  (conv => whnf); refine VC.fa fl85_0 ?_
  (conv => whnf); refine ld1 (v := .string op) ct9 (by rw [hp.cell]; rfl) hp.lt ?_
  (conv => whnf); refine vcat (by rw [h32]; unfold maxLen; omega) ?_
  (conv => whnf); refine VC.fa fl85_1 ?_
  (conv => whnf); refine ld1 (v := .string name) ct9 (by rw [hp.cell]; rfl) hp.lt ?_
  (conv => whnf); refine VC.fa fl85_2 ?_
  (conv => whnf); refine ld1 (v := .iface 141 (.pointer (some ⟨e, eo, none⟩))) ct35 (by rw [hp.cell]; rfl) hp.lt ?_
  (conv => whnf); refine pures (quote_p hnm) fun H1 ha1 => ?_
  refine ⟨ha1, ?_⟩
  (conv => whnf); refine vcat (by rw [ByteArray.size_append, h32, hz]; unfold maxLen; omega) ?_
  (conv => whnf); refine vcat (by rw [ByteArray.size_append, ByteArray.size_append, h32, h58, hz]; unfold maxLen; omega) ?_
  (conv => whnf); refine VInv.mk 87 #[.pointer (some ⟨e, eo, none⟩)] (m_err _) (errText_p (H := H1) (s := t) (by have h9 := ha1 e hel; unfold VC.cell at he ⊢; rw [h9]; exact he)) ?_
  rintro _ H2 ⟨rfl, ha2⟩
  have h2 := ha1.trans (ha2.mono fun k hk => old_lt ha1 hk)
  refine ⟨h2, ?_⟩
  (conv => whnf); refine vcat (by rw [ByteArray.size_append, ByteArray.size_append, ByteArray.size_append, h32, h58, hz]; unfold maxLen; omega) ?_
  (conv => whnf)
  exact ⟨rfl, h2⟩
end Go.Proofs.YtfdlhakfmbdamaaDoor
