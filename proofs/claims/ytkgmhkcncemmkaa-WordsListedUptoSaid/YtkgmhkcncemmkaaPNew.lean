/- dfa.New. -/
import Derived.Test.YtkgmhkcncemmkaaPWake
import Derived.Test.YtkgmhkcncemmkaaVMem
set_option linter.unusedVariables false
set_option linter.unusedSimpArgs false
set_option maxRecDepth 100000
namespace Go.Proofs.Ytkgmhkcncemmkaa
open Go.VC
attribute [local irreducible] mRun

structure AM where
  sets : List (BitVec 256)
  cell : List Nat
  next : List (List Int)
  final : List Bool
def madeM (cells : List (BitVec 256)) (next : List (List Int)) (final : List Bool) : AM :=
  ⟨(mRun next cells (fun b => spanS b b) 256).sets, (mRun next cells (fun b => spanS b b) 256).cell, next.map (rowOf (mRun next cells (fun b => spanS b b) 256).cols), final⟩
structure AM.Ok (A : AM) : Prop where
  n1 : 1 ≤ A.next.length
  n2 : A.next.length ≤ 65536
  fl : A.final.length = A.next.length
  cell : A.cell.length = 256
  places : ∀ p ∈ A.cell, p < A.sets.length
  sl : A.sets.length ≤ 256
  rows : ∀ row ∈ A.next, row.length = A.sets.length ∧ ∀ t ∈ row, 0 ≤ t ∧ t < (A.next.length : Int)
structure AutoR (S : Nat → Prop) (H : Heap) (pb : Nat) (A : AM) : Prop where
  own : S pb
  ok : A.Ok
  rep : ∃ ac cc an cn af cf aa ca al, Blk H pb 102 (autoL (.slice ac A.sets.length cc) A.cell (.slice an A.next.length cn) (.slice af A.final.length cf) (.slice aa al.length ca)) ∧
    SlD tSet S H ac cc A.sets ∧ SlD tRows S H an cn A.next ∧ SlD tBool S H af cf A.final ∧ SlD tBool S H aa ca al ∧ al.length = A.next.length ∧ ∀ q : Nat, q < A.next.length → (al[q]? = some true ↔ LiveT A.next A.final q)
theorem AutoR.frame {S : Nat → Prop} {H H' : Heap} {pb : Nat} {A : AM} (h : AutoR S H pb A) (k : Agr S H H') : AutoR S H' pb A := by
  obtain ⟨h1, h2, ac, cc, an, cn, af, cf, aa, ca, al, h3, h4, h5, h6, h7, h8⟩ := h
  exact ⟨h1, h2, ac, cc, an, cn, af, cf, aa, ca, al, h3.agr k h1, h4.frame k, h5.frame k, h6.frame k, h7.frame k, h8⟩
theorem AutoR.mono {S S' : Nat → Prop} {H : Heap} {pb : Nat} {A : AM} (h : AutoR S H pb A) (k : ∀ b, S b → S' b) : AutoR S' H pb A := by
  obtain ⟨h1, h2, ac, cc, an, cn, af, cf, aa, ca, al, h3, h4, h5, h6, h7, h8⟩ := h
  exact ⟨k _ h1, h2, ac, cc, an, cn, af, cf, aa, ca, al, h3, h4.mono k, h5.mono k, h6.mono k, h7.mono k, h8⟩
def AutoV (S : Nat → Prop) (H : Heap) (v : Value) : Option AM → Prop
  | none => v = .pointer none
  | some A => ∃ pb, v = .pointer (some ⟨pb, 0, none⟩) ∧ AutoR S H pb A
theorem AutoV.frame {S : Nat → Prop} {H H' : Heap} {v : Value} {o : Option AM} (h : AutoV S H v o) (k : Agr S H H') : AutoV S H' v o := by
  cases o with
  | none => exact h
  | some A => obtain ⟨pb, h1, h2⟩ := h; exact ⟨pb, h1, h2.frame k⟩
theorem AutoV.mono {S S' : Nat → Prop} {H : Heap} {v : Value} {o : Option AM} (h : AutoV S H v o) (k : ∀ b, S b → S' b) : AutoV S' H v o := by
  cases o with
  | none => exact h
  | some A => obtain ⟨pb, h1, h2⟩ := h; exact ⟨pb, h1, h2.mono k⟩
theorem madeM_ok {cells : List (BitVec 256)} {next : List (List Int)} {final : List Bool} (h : soundB cells next final.length = true) : (madeM cells next final).Ok := by
  obtain ⟨n1, n2, n3, hrows⟩ := soundB_rows h
  have hm := mRun_ok (next := next) (sp := fun b => spanS b b) (fun b hb => (soundB_cells h hb).1) 256 (Nat.le_refl _)
  have hlen := hm.len
  have hle := hm.le
  have hce := hm.cell
  refine ⟨by simpa [madeM] using n1, by simpa [madeM] using n2, by simp [madeM, n3], ?_, ?_, ?_, ?_⟩
  · exact hce
  · intro p hp
    have := hm.places p hp
    simp only [madeM]; omega
  · simp only [madeM]; omega
  · intro row hrow
    simp only [madeM, List.mem_map] at hrow
    obtain ⟨r, hr, rfl⟩ := hrow
    refine ⟨by simp only [rowOf, madeM, List.length_map]; omega, fun t ht => ?_⟩
    obtain ⟨c, hc, rfl⟩ := List.mem_map.1 ht
    have hc' := hm.cols c hc
    have := hrows r hr
    simp only [madeM, List.length_map]
    rw [List.getD_eq_getElem?_getD, List.getElem?_eq_getElem (by omega), Option.getD_some]
    exact this.2 _ (List.getElem_mem _)

set_option maxHeartbeats 4000000 in
theorem new_c (ca na fa : Option Addr) (cc nc fc : Nat) (cells : List (BitVec 256)) (next : List (List Int)) (final : List Bool) (S : Nat → Prop) (H : Heap) (hS : ∀ k, S k → k < H.size)
    (hc : SlD tSet S H ca cc cells) (hn : SlD tRows S H na nc next) (hf : SlD tBool S H fa fc final) :
    FnOk Try.prog 39 #[.slice ca cells.length cc, .slice na next.length nc, .slice fa final.length fc] H fun v H' =>
      Agr (Old H) H H' ∧ H.size ≤ H'.size ∧ AutoV (fun k => H.size ≤ k ∧ k < H'.size) H' v (if soundB cells next final.length then some (madeM cells next final) else none) := by
  have lf := hf.le
  unfold maxLen at lf
  refine FnOk.of_vc Try.func39 rfl (Try.call39 _) ?_
  (conv => whnf); refine pures (sound_p ca na fa cc nc fc final.length cells next S H hS hc hn (by omega)) fun H1 ha1 => ?_
  have hs1 : H.size ≤ H1.size := by
    rcases Nat.eq_zero_or_pos H.size with h | h
    · omega
    · have := old_lt ha1 (k := H.size - 1) (by unfold Old; omega); omega
  (conv => whnf); refine VIte.mk (fun h => ?_) (fun h => ?_)
  · (conv => whnf)
    have hb : soundB cells next final.length = false := by simpa using h
    rw [hb]
    exact ⟨ha1, hs1, rfl⟩
  · have hb : soundB cells next final.length = true := by simpa using h
    rw [hb]
    obtain ⟨n1, n2, n3, hrows⟩ := soundB_rows hb
    (conv => whnf); refine vappendD (T := tBool) (S := S) (lo := H1.size) (xs := []) sl24 tBool_ones SlO.nil (Nat.le_refl _) (fun k hk => ⟨by have := hS k hk; omega, ?_⟩) (hf.frame (ha1.mono hS)) (by simp only [maxLen, List.length_nil]; omega) (by simp only [List.length_nil]; omega) ?_
    · rintro ⟨o, n, c, h⟩; cases h
    intro v2 H2 hown2 ha2 hs2 _
    rw [List.nil_append] at hown2
    have hown2' : SlO tBool (fun _ => False) H2 H1.size 4 v2 final := hown2.free tBool_free
    obtain ⟨af, capf, rfl, hfin, -⟩ := hown2'.view (S' := fun k => H1.size ≤ k ∧ k < H2.size) (fun k hk => hown2.lt hk) (fun k hk => hk.elim)
    (conv => whnf); refine vbuildS rfl rfl _ rfl (autoL (.slice none 0 0) [] (.slice none 0 0) (.slice af final.length capf) (.slice none 0 0)) (by rfl) ?_
    (conv => whnf); refine vbox (autoL (.slice none 0 0) [] (.slice none 0 0) (.slice af final.length capf) (.slice none 0 0)) rfl ?_
    intro pb H3 hpb hs3 hb3 ha3
    have hsz2 : H2.size = pb := by omega
    have hsO : ∀ k, Old H k → k < H1.size := fun k hk => by unfold Old at hk; omega
    have hA3 : Agr (fun k => k < H.size) H H3 := (ha1.trans (ha2.mono fun k hk => ⟨hsO k hk, fun hb => by obtain ⟨o, n, c, h⟩ := hb; cases h⟩)).trans (ha3.mono fun k hk => by unfold Old at hk; omega)
    have hSO : ∀ k, S k → k < H3.size ∧ k ≠ pb := fun k hk => by have := hS k hk; omega
    (conv => whnf); refine VCall.mk (merge_c pb (.slice af final.length capf) (.slice none 0 0) ca na cc nc cells next final.length S H3 hSO hb3 (hc.frame (hA3.mono hS)) (hn.frame (hA3.mono hS)) hb) ?_
    rintro v4 H4 ⟨ha4, hs4, ac, capc, an, capn, hb4, hsets, hrows4⟩
    have hfin3 : SlD tBool (fun k => H1.size ≤ k ∧ k < H2.size) H4 af capf final := (hfin.frame (ha3.mono fun k hk => by omega)).frame (ha4.mono fun k hk => by omega)
    have hmok := madeM_ok hb
    (conv => whnf)
    refine VCall.mk (wake_c pb (.slice ac (mRun next cells (fun b => spanS b b) 256).sets.length capc) (.slice none 0 0) (mRun next cells (fun b => spanS b b) 256).cell an af capn capf (next.map (rowOf (mRun next cells (fun b => spanS b b) 256).cols)) final
      (fun k => H1.size ≤ k ∧ k < H4.size ∧ k ≠ pb) H4 (fun k hk => by omega) (by rw [List.length_map]; exact hb4) (Nat.le_of_eq hmok.cell) (hrows4.mono fun k hk => by omega) (hfin3.mono fun k hk => by omega)
      (by simpa using n2) (by simp [n3]) (fun row hrow => ?_)) ?_
    · have := hmok.rows row hrow
      have h2 := hmok.sl
      exact ⟨by omega, this.2⟩
    rintro v5 H5 ⟨ha5, hs5, al, aa, capa, hall, hlive, hb5, hal⟩
    (conv => whnf)
    refine ⟨?_, by omega, pb, rfl, ⟨by omega, by omega⟩, hmok, ac, capc, an, capn, af, capf, aa, capa, al, hb5, ?_, ?_, ?_, ?_, hall, hlive⟩
    · exact (hA3.trans (ha4.mono fun k hk => by omega)).trans (ha5.mono fun k hk => by omega)
    · exact (hsets.frame (ha5.mono fun k hk => by omega)).mono fun k hk => by omega
    · exact (hrows4.frame (ha5.mono fun k hk => by omega)).mono fun k hk => by omega
    · exact (hfin3.frame (ha5.mono fun k hk => by omega)).mono fun k hk => by omega
    · exact hal.mono fun k hk => by omega

end Go.Proofs.Ytkgmhkcncemmkaa
