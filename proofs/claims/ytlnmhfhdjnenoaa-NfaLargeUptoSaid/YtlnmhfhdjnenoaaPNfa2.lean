/- Nondeterministic automata in memory. -/
import Derived.Test.YtlnmhfhdjnenoaaPNfa1
import Derived.Test.YtlnmhfhdjnenoaaPSetD
import Derived.Test.YtlnmhfhdjnenoaaVMapI
set_option linter.unusedVariables false
set_option linter.unusedSimpArgs false
set_option maxRecDepth 100000
namespace Go.Proofs.Ytlnmhfhdjnenoaa
open Go.VC
/-- An edge of the program's. -/
def edL (e : EdM) : List Value := [.int .i64 e.fr, .int .i64 e.to, .bool e.sil, .int .u64 (wd e.set 0), .int .u64 (wd e.set 1), .int .u64 (wd e.set 2), .int .u64 (wd e.set 3)]
theorem edL_set (e : EdM) : ∀ (j : Nat) (v : Value), (setL e.set)[j]? = some v → (edL e)[3 + j]? = some v := by
  intro j v h
  rw [show 3 + j = j + 3 by omega]
  exact h
def EdM.Ok (e : EdM) : Prop := inK .i64 e.fr ∧ inK .i64 e.to
def tEd : Ty EdM where
  size := 7
  rep _ _ cs e := cs = edL e ∧ e.Ok
  len h := by rw [h.1]; rfl
  frame h _ := h
  mono h _ := h
theorem ed_ones (e : EdM) : (edL e).all (·.oneCell') = true := rfl
theorem tEd_ones : tEd.Ones := by
  rintro S H cs e ⟨rfl, -⟩ u hu
  exact List.all_eq_true.1 (ed_ones e) u hu
theorem tEd_free : tEd.Free := fun S S' H H' cs e h => h
/-- An edge of the document's. -/
def edDL (e : EdM) : List Value := [.int .i64 e.fr, .int .i64 e.to, .bool e.sil] ++ bitsL e.set
theorem edDL_len (e : EdM) : (edDL e).length = 259 := by
  unfold edDL
  rw [List.length_append, show (bitsL e.set).length = 256 from bitsTo_len _ _]
  rfl
def tEdD : Ty EdM where
  size := 259
  rep _ _ cs e := cs = edDL e ∧ e.Ok
  len h := by rw [h.1]; exact edDL_len _
  frame h _ := h
  mono h _ := h
theorem edD_ones (e : EdM) : (edDL e).all (·.oneCell') = true := by
  unfold edDL
  rw [List.all_append, bitsL, bits_ones]
  rfl
theorem tEdD_ones : tEdD.Ones := by
  rintro S H cs e ⟨rfl, -⟩ u hu
  exact List.all_eq_true.1 (edD_ones e) u hu
theorem tEdD_free : tEdD.Free := fun S S' H H' cs e h => h
theorem edDL_bit (e : EdM) {b : Nat} (h : b < 256) : (edDL e)[3 + b]? = some (.bool (e.set.getLsbD b)) := by
  unfold edDL
  rw [List.getElem?_append_right (by simp)]
  simpa using bitsL_get e.set h
def NfM.Rng (a : NfM) : Prop := inK .i64 a.st ∧ inK .i64 a.start ∧ inK .i64 a.fin
def nfL (a : NfM) (v : Value) : List Value := [.int .i64 a.st, .int .i64 a.start, .int .i64 a.fin, v]
/-- An automaton of the program's, to be read. -/
def NfV (S : Nat → Prop) (H : Heap) (v : Value) (a : NfM) : Prop := a.Rng ∧ a.edges.length ≤ 1048576 ∧ ∃ ea ec, v = .agg (nfL a (.slice ea a.edges.length ec)).toArray ∧ SlD tEd S H ea ec a.edges
/-- The document's. -/
def NdV (S : Nat → Prop) (H : Heap) (v : Value) (a : NfM) : Prop := a.Rng ∧ a.edges.length ≤ 1048576 ∧ ∃ ea ec, v = .agg (nfL a (.slice ea a.edges.length ec)).toArray ∧ SlD tEdD S H ea ec a.edges
section
variable {S S' : Nat → Prop} {H H' : Heap} {v : Value} {a : NfM}
theorem NfV.frame (h : NfV S H v a) (k : Agr S H H') : NfV S H' v a := by
  obtain ⟨h1, h0, ea, ec, h2, h3⟩ := h
  exact ⟨h1, h0, ea, ec, h2, h3.frame k⟩
theorem NfV.mono (h : NfV S H v a) (k : ∀ i, S i → S' i) : NfV S' H v a := by
  obtain ⟨h1, h0, ea, ec, h2, h3⟩ := h
  exact ⟨h1, h0, ea, ec, h2, h3.mono k⟩
theorem NdV.frame (h : NdV S H v a) (k : Agr S H H') : NdV S H' v a := by
  obtain ⟨h1, h0, ea, ec, h2, h3⟩ := h
  exact ⟨h1, h0, ea, ec, h2, h3.frame k⟩
theorem NdV.mono (h : NdV S H v a) (k : ∀ i, S i → S' i) : NdV S' H v a := by
  obtain ⟨h1, h0, ea, ec, h2, h3⟩ := h
  exact ⟨h1, h0, ea, ec, h2, h3.mono k⟩
end
theorem edge_z : (Try.prog.info? 81).bind (·.zero) = some (.agg #[.int .i64 0, .int .i64 0, .bool false, .int .u64 0, .int .u64 0, .int .u64 0, .int .u64 0]) := rfl
theorem nfa_z : (Try.prog.info? 25).bind (·.zero) = some (.agg #[.int .i64 0, .int .i64 0, .int .i64 0, .slice none 0 0]) := rfl
theorem nfd_z : (Try.prog.info? 34).bind (·.zero) = some (.agg #[.int .i64 0, .int .i64 0, .int .i64 0, .slice none 0 0]) := rfl
def edDZ : Value := Value.agg (([Value.int .i64 0, Value.int .i64 0, Value.bool false] : List Value) ++ List.replicate 256 (Value.bool false)).toArray
def edZL : List Value := ([Value.int .i64 0, Value.int .i64 0, Value.bool false] : List Value) ++ List.replicate 256 (Value.bool false)
theorem edZL_len : edZL.length = 259 := by simp [edZL]
theorem edgeD_z : (Try.prog.info? 83).bind (·.zero) = some edDZ := by kernel_rfl
theorem edge_fill (x y : Int) (b : Bool) (w0 w1 w2 w3 : Value) {S : Nat → Prop} {H : Heap} {K : Value → Prop} (h0 : w0.oneCell' = true) (h1 : w1.oneCell' = true) (h2 : w2.oneCell' = true) (h3 : w3.oneCell' = true) (k : K (.agg [.int .i64 x, .int .i64 y, .bool b, w0, w1, w2, w3].toArray)) :
    VDet Try.prog (Instr.build 81 [(0, .int .i64 x), (1, .int .i64 y), (2, .bool b), (3, .agg [w0, w1, w2, w3].toArray)].toArray) S H K :=
  vbuildS Try.underlying81 rfl _ edge_z [.int .i64 x, .int .i64 y, .bool b, w0, w1, w2, w3] (by kernel_rfl) k
theorem edge_build (e : EdM) {S : Nat → Prop} {H : Heap} {K : Value → Prop} (k : K (.agg (edL e).toArray)) :
    VDet Try.prog (Instr.build 81 [(0, .int .i64 e.fr), (1, .int .i64 e.to), (2, .bool e.sil), (3, .agg (setL e.set).toArray)].toArray) S H K := by
  unfold setL edL at *
  exact edge_fill e.fr e.to e.sil _ _ _ _ rfl rfl rfl rfl k
theorem fill4 {place : Nat → Option (Nat × Nat)} {c0 c1 c2 v0 v1 v2 : Value} {zs bs : List Value} (hl : bs.length = zs.length) (p0 : place 0 = some (0, 1)) (p1 : place 1 = some (1, 1)) (p2 : place 2 = some (2, 1)) (p3 : place 3 = some (3, zs.length))
    (h0 : v0.cells = #[v0]) (h1 : v1.cells = #[v1]) (h2 : v2.cells = #[v2]) : Instr.fill place ([c0, c1, c2] ++ zs).toArray [(0, v0), (1, v1), (2, v2), (3, .agg bs.toArray)] = some ([v0, v1, v2] ++ bs).toArray := by
  have e0 : splice ([c0, c1, c2] ++ zs) 0 [v0] = [v0, c1, c2] ++ zs := rfl
  have e1 : splice ([v0, c1, c2] ++ zs) 1 [v1] = [v0, v1, c2] ++ zs := rfl
  have e2 : splice ([v0, v1, c2] ++ zs) 2 [v2] = [v0, v1, v2] ++ zs := rfl
  have e3 : splice ([v0, v1, v2] ++ zs) 3 bs = [v0, v1, v2] ++ bs := by
    unfold splice
    rw [show ([v0, v1, v2] ++ zs).take 3 = [v0, v1, v2] from rfl, List.drop_eq_nil_of_le (by simp; omega), List.append_nil]
  have ec : (Value.agg bs.toArray).cells = bs.toArray := rfl
  rw [fill_cons p0 (by rw [h0]; rfl) (by simp), h0, List.toList_toArray, e0, fill_cons p1 (by rw [h1]; rfl) (by simp), h1, List.toList_toArray, e1, fill_cons p2 (by rw [h2]; rfl) (by simp), h2, List.toList_toArray, e2, fill_cons p3 (by rw [ec]; simpa using hl) (by simp; omega), ec, List.toList_toArray, List.toList_toArray, e3]
  rfl
theorem edgeD_build (e : EdM) {S : Nat → Prop} {H : Heap} {K : Value → Prop} (k : K (.agg (edDL e).toArray)) :
    VDet Try.prog (Instr.build 83 [(0, .int .i64 e.fr), (1, .int .i64 e.to), (2, .bool e.sil), (3, .agg (bitsL e.set).toArray)].toArray) S H K :=
  vbuildS Try.underlying83 rfl edDZ edgeD_z (edDL e) (fill4 (zs := List.replicate 256 (Value.bool false)) (by rw [show (bitsL e.set).length = 256 from bitsTo_len _ _, List.length_replicate]) (by kernel_rfl) (by kernel_rfl) (by kernel_rfl) (by rw [List.length_replicate]; kernel_rfl) rfl rfl rfl) k
/-- Boxing an automaton, and reading it. -/
theorem nf_box {S : Nat → Prop} {H : Heap} {v : Value} {a : NfM} {K : Value → Heap → Prop} {t : TypeId} (h : NfV S H v a)
    (k : ∀ ea ec, v = .agg (nfL a (.slice ea a.edges.length ec)).toArray → SlD tEd S H ea ec a.edges → New H (fun b H' => K (.pointer (some ⟨b, 0, none⟩)) H') t (nfL a (.slice ea a.edges.length ec))) : VEff Try.prog (Instr.box t v) H K := by
  obtain ⟨hr, hl, ea, ec, rfl, h1⟩ := h
  exact vbox (nfL a (.slice ea a.edges.length ec)) rfl (k ea ec rfl h1)
theorem nd_box {S : Nat → Prop} {H : Heap} {v : Value} {a : NfM} {K : Value → Heap → Prop} {t : TypeId} (h : NdV S H v a)
    (k : ∀ ea ec, v = .agg (nfL a (.slice ea a.edges.length ec)).toArray → SlD tEdD S H ea ec a.edges → New H (fun b H' => K (.pointer (some ⟨b, 0, none⟩)) H') t (nfL a (.slice ea a.edges.length ec))) : VEff Try.prog (Instr.box t v) H K := by
  obtain ⟨hr, hl, ea, ec, rfl, h1⟩ := h
  exact vbox (nfL a (.slice ea a.edges.length ec)) rfl (k ea ec rfl h1)
theorem nf_load {S S0 : Nat → Prop} {H : Heap} {a : NfM} {pb : Nat} {ea : Option Addr} {ec : Nat} {K : Value → Prop} {t : TypeId} (hr : a.Rng) (hl : a.edges.length ≤ 1048576) (hb : Blk H pb t (nfL a (.slice ea a.edges.length ec))) (hag : AggT Try.prog t 4) (hS : S0 pb) (h1 : SlD tEd S H ea ec a.edges)
    (k : ∀ v, NfV S H v a → K v) : VDet Try.prog (Instr.loadAt t (.pointer (some ⟨pb, 0, none⟩))) S0 H K :=
  ldN (cs := nfL a (.slice ea a.edges.length ec)) hag (hb.cells fun j v hv => by rw [Nat.zero_add]; exact hv) hS (k _ ⟨hr, hl, ea, ec, rfl, h1⟩)
theorem nd_load {S S0 : Nat → Prop} {H : Heap} {a : NfM} {pb : Nat} {ea : Option Addr} {ec : Nat} {K : Value → Prop} {t : TypeId} (hr : a.Rng) (hl : a.edges.length ≤ 1048576) (hb : Blk H pb t (nfL a (.slice ea a.edges.length ec))) (hag : AggT Try.prog t 4) (hS : S0 pb) (h1 : SlD tEdD S H ea ec a.edges)
    (k : ∀ v, NdV S H v a → K v) : VDet Try.prog (Instr.loadAt t (.pointer (some ⟨pb, 0, none⟩))) S0 H K :=
  ldN (cs := nfL a (.slice ea a.edges.length ec)) hag (hb.cells fun j v hv => by rw [Nat.zero_add]; exact hv) hS (k _ ⟨hr, hl, ea, ec, rfl, h1⟩)
/-! ### has -/
theorem has_p {S : Nat → Prop} {H : Heap} {v : Value} {a : NfM} {q : Int} (h : NfV S H v a) : Pure Try.prog 32 #[v, .int .i64 q] H (.bool (a.has q)) := by
  refine FnOk.of_vc Try.func32 rfl (Try.call32 _) ?_
  (conv => whnf); refine nf_box h fun ea ec he h1 => ?_
  subst he
  intro p H1 hp hs1 hb1 ha1
  have st1 := (St.nil H).box hp hs1 hb1 ha1
  by_cases h0 : 0 ≤ q
  · have d0 : decide (0 ≤ q) = true := decide_eq_true h0
    (conv => whnf); rw [d0]
    (conv => whnf); refine fa fl25_0 ?_
    (conv => whnf); refine ld1 (v := .int .i64 a.st) ct3 (by rw [hb1.cell]; rfl) trivial ?_
    by_cases h2 : q < a.st
    · have d1 : decide (q < a.st) = true := decide_eq_true h2
      (conv => whnf); rw [d1]
      (conv => whnf); refine fa fl25_0 ?_
      (conv => whnf); refine ld1 (v := .int .i64 a.st) ct3 (by rw [hb1.cell]; rfl) trivial ?_
      (conv => whnf)
      exact ⟨by unfold NfM.has; rw [d0, d1]; rfl, st1.old⟩
    · have d1 : decide (q < a.st) = false := decide_eq_false h2
      (conv => whnf); rw [d1]
      (conv => whnf)
      exact ⟨by unfold NfM.has; rw [d0, d1]; rfl, st1.old⟩
  · have d0 : decide (0 ≤ q) = false := decide_eq_false h0
    (conv => whnf); rw [d0]
    (conv => whnf)
    exact ⟨by unfold NfM.has; rw [d0]; rfl, st1.old⟩
theorem hasD_p {S : Nat → Prop} {H : Heap} {v : Value} {a : NfM} {q : Int} (h : NdV S H v a) : Pure Try.prog 38 #[v, .int .i64 q] H (.bool (a.has q)) := by
  refine FnOk.of_vc Try.func38 rfl (Try.call38 _) ?_
  (conv => whnf); refine nd_box h fun ea ec he h1 => ?_
  subst he
  intro p H1 hp hs1 hb1 ha1
  have st1 := (St.nil H).box hp hs1 hb1 ha1
  by_cases h0 : 0 ≤ q
  · have d0 : decide (0 ≤ q) = true := decide_eq_true h0
    (conv => whnf); rw [d0]
    (conv => whnf); refine fa fl34_0 ?_
    (conv => whnf); refine ld1 (v := .int .i64 a.st) ct3 (by rw [hb1.cell]; rfl) trivial ?_
    by_cases h2 : q < a.st
    · have d1 : decide (q < a.st) = true := decide_eq_true h2
      (conv => whnf); rw [d1]
      (conv => whnf); refine fa fl34_0 ?_
      (conv => whnf); refine ld1 (v := .int .i64 a.st) ct3 (by rw [hb1.cell]; rfl) trivial ?_
      (conv => whnf)
      exact ⟨by unfold NfM.has; rw [d0, d1]; rfl, st1.old⟩
    · have d1 : decide (q < a.st) = false := decide_eq_false h2
      (conv => whnf); rw [d1]
      (conv => whnf)
      exact ⟨by unfold NfM.has; rw [d0, d1]; rfl, st1.old⟩
  · have d0 : decide (0 ≤ q) = false := decide_eq_false h0
    (conv => whnf); rw [d0]
    (conv => whnf)
    exact ⟨by unfold NfM.has; rw [d0]; rfl, st1.old⟩
end Go.Proofs.Ytlnmhfhdjnenoaa
