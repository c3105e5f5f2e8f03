/- System.room, the refusals, System.Read, System.Write: the walks. -/
import Derived.Test.YtfdlhakfmbdamaaDoorPFs1
set_option linter.unusedVariables false
set_option linter.unusedSimpArgs false
set_option maxRecDepth 100000
namespace Go.VC
/-- How many keys a map has. -/
theorem mlenE {α : Type} {Ok : α → Prop} {enc : α → Value} {P : Program} {t kt et vt : TypeId} {z : Value} {S : Nat → Prop} {H : Heap} {b : Nat} {m : α → Option Value} {l : List α} (ht : MapTW P t kt et z) (h : MapW Ok enc H b m) (hb : S b) (hn : l.Nodup) (hl : ∀ a, (m a).isSome = true ↔ a ∈ l) (hi : ∀ a b : α, enc a = enc b → a = b) {K : Value → Prop}
    (k : K (.int .i64 (l.length : Int))) : VDet P (Builtin.len_ #[t] vt [.map (some b)].toArray) S H K := by
  obtain ⟨⟨es, clock, h1, h2, h3, h4⟩, hok⟩ := h
  have pre : ∀ k, k ≤ es.size → ∃ l : List α, l.length = k ∧ ∀ (j : Nat) (a : α), l[j]? = some a → ∃ x, es[j]? = some x ∧ x.key = enc a ∧ m a = some x.val := by
    intro k
    induction k with
    | zero => exact fun _ => ⟨[], rfl, fun j a h => by simp at h⟩
    | succ k ih =>
      intro hk
      obtain ⟨l, hl, hg⟩ := ih (by omega)
      have hx : es[k]? = some es[k] := Array.getElem?_eq_getElem (by omega)
      obtain ⟨a, e1, e2⟩ := h3 k _ hx
      refine ⟨l ++ [a], by simp [hl], fun j a' hj => ?_⟩
      by_cases hjk : j < k
      · rw [List.getElem?_append_left (by omega)] at hj
        exact hg j a' hj
      · have hjl := (List.getElem?_eq_some_iff.1 hj).1
        simp only [List.length_append, List.length_cons, List.length_nil] at hjl
        obtain rfl : j = k := by omega
        rw [List.getElem?_append_right (by omega), hl, Nat.sub_self] at hj
        simp only [List.getElem?_cons_zero, Option.some.injEq] at hj
        subst hj
        exact ⟨_, hx, e1, e2⟩
  obtain ⟨l2, hl2, hg⟩ := pre es.size (Nat.le_refl _)
  have hnd : l2.Nodup := by
    unfold List.Nodup
    rw [List.pairwise_iff_getElem]
    intro i j hi hj hij e
    obtain ⟨x, hx, hkx, -⟩ := hg i _ (List.getElem?_eq_getElem hi)
    obtain ⟨y, hy, hky, -⟩ := hg j _ (List.getElem?_eq_getElem hj)
    rw [e] at hkx
    have := stamped_key h2 hx hy (hkx.trans hky.symm)
    omega
  have hmem : ∀ a, a ∈ l2 ↔ a ∈ l := fun a => by
    rw [← hl]
    constructor
    · intro ha
      obtain ⟨j, hj⟩ := List.getElem?_of_mem ha
      obtain ⟨x, -, -, e⟩ := hg j a hj
      rw [e]; rfl
    · intro ha
      obtain ⟨v, hv⟩ := Option.isSome_iff_exists.1 ha
      obtain ⟨i, x, hx, hk, -⟩ := h4 a v hv
      have hil : i < l2.length := by rw [hl2]; exact (Array.getElem?_eq_some_iff.1 hx).1
      obtain ⟨y, hy, hky, -⟩ := hg i _ (List.getElem?_eq_getElem hil)
      rw [hx] at hy
      injection hy with hy
      subst hy
      have := hi _ _ (hk.symm.trans hky)
      rw [this]
      exact List.getElem_mem hil
  have hlen : l2.length = l.length := List.Perm.length_eq (by
    classical
    exact (List.perm_ext_iff_of_nodup hnd hn).2 hmem)
  refine VDet.mk _ (fun w hw => ?_) (show K (.int .i64 (es.size : Int)) by rw [← hl2, hlen]; exact k)
  have hb' := (hw b hb).trans h1
  simp [Builtin.len_, run_underlying ht.under, Go.MapKept.run_getObj_map hb', goInt]
end Go.VC
namespace Go.Proofs.YtfdlhakfmbdamaaDoor
open Go.VC
theorem mapFiW : MapTW Tryd.prog 76 9 78 (.agg #[.string ⟨#[]⟩]) := ⟨rfl, rfl⟩
theorem lookF_none {l : List (ByteArray × ByteArray)} {n : ByteArray} : lookF l n = none ↔ n ∉ l.map (·.1) := by
  unfold lookF
  rw [Option.map_eq_none_iff, List.find?_eq_none]
  simp only [decide_eq_true_eq, List.mem_map, not_exists, not_and]
theorem lookF_some {l : List (ByteArray × ByteArray)} {n : ByteArray} : (lookF l n).isSome = true ↔ n ∈ l.map (·.1) := by
  have h := @lookF_none l n
  cases hl : lookF l n with
  | none => simp only [Option.isSome_none, Bool.false_eq_true, false_iff]; exact h.1 hl
  | some d =>
    simp only [Option.isSome_some, true_iff]
    apply Classical.byContradiction
    intro hn
    rw [h.2 hn] at hl
    cases hl
theorem fileV_some (l : List (ByteArray × ByteArray)) (n : ByteArray) : (fileV l n).isSome = (lookF l n).isSome := by
  unfold fileV
  cases lookF l n <;> rfl
def dataM (l : List (ByteArray × ByteArray)) (n : ByteArray) : ByteArray := (lookF l n).getD ⟨#[]⟩
theorem fileV_get (l : List (ByteArray × ByteArray)) (n : ByteArray) : (fileV l n).getD (.agg #[.string ⟨#[]⟩]) = .agg [.string (dataM l n)].toArray := by
  unfold fileV dataM
  cases lookF l n <;> rfl
def roomM (l : List (ByteArray × ByteArray)) (n : ByteArray) : Bool := (lookF l n).isSome || decide (l.length < 64)
set_option maxHeartbeats 4000000 in
theorem room_p {H : Heap} {s fm : Nat} {l : List Value} {files : List (ByteArray × ByteArray)} {name : ByteArray} (hb : Blk H s 83 l) (h0 : l[0]? = some (.map (some fm))) (hm : MapF Value.string H fm (fileV files)) (hn : (files.map (·.1)).Nodup) :
    Pure Tryd.prog 24 #[.pointer (some ⟨s, 0, none⟩), .string name] H (.bool (roomM files name)) := by
  refine FnOk.of_vc Tryd.func24 rfl (Tryd.call24 _) ?_
  (conv => whnf); refine VC.fa fl83_0 ?_
  (conv => whnf); refine ld1 (v := .map (some fm)) ct76 (by rw [hb.cell]; exact h0) trivial ?_
  (conv => whnf); refine mlookOk (a := name) mapFi keyS hm trivial ?_
  rw [fileV_get, fileV_some]
  (conv => whnf); refine valloc (.agg #[.string ⟨#[]⟩]) [.string ⟨#[]⟩] rfl rfl ?_
  intro q1 H1 hq1 hs1 hb1 ha1
  have st1 := (St.nil H).box hq1 hs1 hb1 ha1
  (conv => whnf); refine stNB2 (cs := [.string (dataM files name)]) st1 0 rfl rfl (by simp) rfl fun H2 st2 ha2 hs2 => ?_
  have ag2 : Agr (Old H) H H2 := st2.old
  cases hl : (lookF files name).isSome with
  | true =>
    (conv => whnf)
    exact ⟨by unfold roomM; rw [hl]; rfl, ag2⟩
  | false =>
    (conv => whnf); refine VC.fa fl83_0 ?_
    (conv => whnf); refine ld1 (v := .map (some fm)) ct76 (by rw [(hb.agr ag2 hb.lt).cell]; exact h0) trivial ?_
    (conv => whnf); refine mlenE (Ok := fun _ => True) (l := files.map (·.1)) mapFiW ⟨hm.agr ag2 hm.lt, fun _ _ _ => trivial⟩ trivial hn (fun a => by rw [fileV_some, lookF_some]) (fun a b h => by cases h; rfl) ?_
    (conv => whnf)
    refine ⟨?_, ag2⟩
    unfold roomM
    rw [hl, Bool.false_or, List.length_map]
    congr 1
    exact decide_eq_decide.2 (by omega)
end Go.Proofs.YtfdlhakfmbdamaaDoor
