/- Parts of the proof: PNew, PAuto, PLaw5, PCellO, PAtm, PTabs, PSetD, PRefA, PLives, PRefB, PSame5, PTables, PSameW -/
import Derived.Test.YthomdogheamfpaaDoorKN2
import Derived.Test.YthomdogheamfpaaDoorKN1
/- dfa.New. -/
set_option linter.unusedVariables false
set_option linter.unusedSimpArgs false
set_option maxRecDepth 100000
namespace Go.Proofs.YthomdogheamfpaaDoor
open Go.VC
attribute [local irreducible] mRun

structure AM where
  sets : List (BitVec 256)
  cell : List Nat
  next : List (List Int)
  final : List Bool
def madeM (cells : List (BitVec 256)) (next : List (List Int)) (final : List Bool) : AM :=
  ⟨(mRun next cells (fun b => spanS b b) 256).sets, (mRun next cells (fun b => spanS b b) 256).cell, next.map (rowOf (mRun next cells (fun b => spanS b b) 256).cols), final⟩
structure AM.Ok (A : AM) : Prop where
  n1 : 1 ≤ A.next.length
  n2 : A.next.length ≤ 65536
  fl : A.final.length = A.next.length
  cell : A.cell.length = 256
  places : ∀ p ∈ A.cell, p < A.sets.length
  sl : A.sets.length ≤ 256
  rows : ∀ row ∈ A.next, row.length = A.sets.length ∧ ∀ t ∈ row, 0 ≤ t ∧ t < (A.next.length : Int)
structure AutoR (S : Nat → Prop) (H : Heap) (pb : Nat) (A : AM) : Prop where
  own : S pb
  ok : A.Ok
  rep : ∃ ac cc an cn af cf aa ca al, Blk H pb 127 (autoL (.slice ac A.sets.length cc) A.cell (.slice an A.next.length cn) (.slice af A.final.length cf) (.slice aa al.length ca)) ∧
    SlD tSet S H ac cc A.sets ∧ SlD tRows S H an cn A.next ∧ SlD tBool S H af cf A.final ∧ SlD tBool S H aa ca al ∧ al.length = A.next.length ∧ ∀ q : Nat, q < A.next.length → (al[q]? = some true ↔ LiveT A.next A.final q)
theorem AutoR.frame {S : Nat → Prop} {H H' : Heap} {pb : Nat} {A : AM} (h : AutoR S H pb A) (k : Agr S H H') : AutoR S H' pb A := by
  obtain ⟨h1, h2, ac, cc, an, cn, af, cf, aa, ca, al, h3, h4, h5, h6, h7, h8⟩ := h
  exact ⟨h1, h2, ac, cc, an, cn, af, cf, aa, ca, al, h3.agr k h1, h4.frame k, h5.frame k, h6.frame k, h7.frame k, h8⟩
theorem AutoR.mono {S S' : Nat → Prop} {H : Heap} {pb : Nat} {A : AM} (h : AutoR S H pb A) (k : ∀ b, S b → S' b) : AutoR S' H pb A := by
  obtain ⟨h1, h2, ac, cc, an, cn, af, cf, aa, ca, al, h3, h4, h5, h6, h7, h8⟩ := h
  exact ⟨k _ h1, h2, ac, cc, an, cn, af, cf, aa, ca, al, h3, h4.mono k, h5.mono k, h6.mono k, h7.mono k, h8⟩
def AutoV (S : Nat → Prop) (H : Heap) (v : Value) : Option AM → Prop
  | none => v = .pointer none
  | some A => ∃ pb, v = .pointer (some ⟨pb, 0, none⟩) ∧ AutoR S H pb A
theorem AutoV.frame {S : Nat → Prop} {H H' : Heap} {v : Value} {o : Option AM} (h : AutoV S H v o) (k : Agr S H H') : AutoV S H' v o := by
  cases o with
  | none => exact h
  | some A => obtain ⟨pb, h1, h2⟩ := h; exact ⟨pb, h1, h2.frame k⟩
theorem AutoV.mono {S S' : Nat → Prop} {H : Heap} {v : Value} {o : Option AM} (h : AutoV S H v o) (k : ∀ b, S b → S' b) : AutoV S' H v o := by
  cases o with
  | none => exact h
  | some A => obtain ⟨pb, h1, h2⟩ := h; exact ⟨pb, h1, h2.mono k⟩
theorem madeM_ok {cells : List (BitVec 256)} {next : List (List Int)} {final : List Bool} (h : soundB cells next final.length = true) : (madeM cells next final).Ok := by
  obtain ⟨n1, n2, n3, hrows⟩ := soundB_rows h
  have hm := mRun_ok (next := next) (sp := fun b => spanS b b) (fun b hb => (soundB_cells h hb).1) 256 (Nat.le_refl _)
  have hlen := hm.len
  have hle := hm.le
  have hce := hm.cell
  refine ⟨by simpa [madeM] using n1, by simpa [madeM] using n2, by simp [madeM, n3], ?_, ?_, ?_, ?_⟩
  · exact hce
  · intro p hp
    have := hm.places p hp
    simp only [madeM]; omega
  · simp only [madeM]; omega
  · intro row hrow
    simp only [madeM, List.mem_map] at hrow
    obtain ⟨r, hr, rfl⟩ := hrow
    refine ⟨by simp only [rowOf, madeM, List.length_map]; omega, fun t ht => ?_⟩
    obtain ⟨c, hc, rfl⟩ := List.mem_map.1 ht
    have hc' := hm.cols c hc
    have := hrows r hr
    simp only [madeM, List.length_map]
    rw [List.getD_eq_getElem?_getD, List.getElem?_eq_getElem (by omega), Option.getD_some]
    exact this.2 _ (List.getElem_mem _)

set_option maxHeartbeats 4000000 in
theorem new_c (ca na fa : Option Addr) (cc nc fc : Nat) (cells : List (BitVec 256)) (next : List (List Int)) (final : List Bool) (S : Nat → Prop) (H : Heap) (hS : ∀ k, S k → k < H.size)
    (hc : SlD tSet S H ca cc cells) (hn : SlD tRows S H na nc next) (hf : SlD tBool S H fa fc final) :
    FnOk Tryd.prog 44 #[.slice ca cells.length cc, .slice na next.length nc, .slice fa final.length fc] H fun v H' =>
      Agr (Old H) H H' ∧ H.size ≤ H'.size ∧ AutoV (fun k => H.size ≤ k ∧ k < H'.size) H' v (if soundB cells next final.length then some (madeM cells next final) else none) := by
  have lf := hf.le
  unfold maxLen at lf
  refine FnOk.of_vc Tryd.func44 rfl (Tryd.call44 _) ?_
  (conv => whnf); refine pures (sound_p ca na fa cc nc fc final.length cells next S H hS hc hn (by omega)) fun H1 ha1 => ?_
  have hs1 : H.size ≤ H1.size := by
    rcases Nat.eq_zero_or_pos H.size with h | h
    · omega
    · have := old_lt ha1 (k := H.size - 1) (by unfold Old; omega); omega
  (conv => whnf); refine VIte.mk (fun h => ?_) (fun h => ?_)
  · (conv => whnf)
    have hb : soundB cells next final.length = false := by simpa using h
    rw [hb]
    exact ⟨ha1, hs1, rfl⟩
  · have hb : soundB cells next final.length = true := by simpa using h
    rw [hb]
    obtain ⟨n1, n2, n3, hrows⟩ := soundB_rows hb
    (conv => whnf); refine vappendD (T := tBool) (S := S) (lo := H1.size) (xs := []) sl24 tBool_ones SlO.nil (Nat.le_refl _) (fun k hk => ⟨by have := hS k hk; omega, ?_⟩) (hf.frame (ha1.mono hS)) (by simp only [maxLen, List.length_nil]; omega) (by simp only [List.length_nil]; omega) ?_
    · rintro ⟨o, n, c, h⟩; cases h
    intro v2 H2 hown2 ha2 hs2 _
    rw [List.nil_append] at hown2
    have hown2' : SlO tBool (fun _ => False) H2 H1.size 4 v2 final := hown2.free tBool_free
    obtain ⟨af, capf, rfl, hfin, -⟩ := hown2'.view (S' := fun k => H1.size ≤ k ∧ k < H2.size) (fun k hk => hown2.lt hk) (fun k hk => hk.elim)
    (conv => whnf); refine vbuildS rfl rfl _ rfl (autoL (.slice none 0 0) [] (.slice none 0 0) (.slice af final.length capf) (.slice none 0 0)) (by rfl) ?_
    (conv => whnf); refine vbox (autoL (.slice none 0 0) [] (.slice none 0 0) (.slice af final.length capf) (.slice none 0 0)) rfl ?_
    intro pb H3 hpb hs3 hb3 ha3
    have hsz2 : H2.size = pb := by omega
    have hsO : ∀ k, Old H k → k < H1.size := fun k hk => by unfold Old at hk; omega
    have hA3 : Agr (fun k => k < H.size) H H3 := (ha1.trans (ha2.mono fun k hk => ⟨hsO k hk, fun hb => by obtain ⟨o, n, c, h⟩ := hb; cases h⟩)).trans (ha3.mono fun k hk => by unfold Old at hk; omega)
    have hSO : ∀ k, S k → k < H3.size ∧ k ≠ pb := fun k hk => by have := hS k hk; omega
    (conv => whnf); refine VCall.mk (merge_c pb (.slice af final.length capf) (.slice none 0 0) ca na cc nc cells next final.length S H3 hSO hb3 (hc.frame (hA3.mono hS)) (hn.frame (hA3.mono hS)) hb) ?_
    rintro v4 H4 ⟨ha4, hs4, ac, capc, an, capn, hb4, hsets, hrows4⟩
    have hfin3 : SlD tBool (fun k => H1.size ≤ k ∧ k < H2.size) H4 af capf final := (hfin.frame (ha3.mono fun k hk => by omega)).frame (ha4.mono fun k hk => by omega)
    have hmok := madeM_ok hb
    (conv => whnf)
    refine VCall.mk (wake_c pb (.slice ac (mRun next cells (fun b => spanS b b) 256).sets.length capc) (.slice none 0 0) (mRun next cells (fun b => spanS b b) 256).cell an af capn capf (next.map (rowOf (mRun next cells (fun b => spanS b b) 256).cols)) final
      (fun k => H1.size ≤ k ∧ k < H4.size ∧ k ≠ pb) H4 (fun k hk => by omega) (by rw [List.length_map]; exact hb4) (Nat.le_of_eq hmok.cell) (hrows4.mono fun k hk => by omega) (hfin3.mono fun k hk => by omega)
      (by simpa using n2) (by simp [n3]) (fun row hrow => ?_)) ?_
    · have := hmok.rows row hrow
      have h2 := hmok.sl
      exact ⟨by omega, this.2⟩
    rintro v5 H5 ⟨ha5, hs5, al, aa, capa, hall, hlive, hb5, hal⟩
    (conv => whnf)
    refine ⟨?_, by omega, pb, rfl, ⟨by omega, by omega⟩, hmok, ac, capc, an, capn, af, capf, aa, capa, al, hb5, ?_, ?_, ?_, ?_, hall, hlive⟩
    · exact (hA3.trans (ha4.mono fun k hk => by omega)).trans (ha5.mono fun k hk => by omega)
    · exact (hsets.frame (ha5.mono fun k hk => by omega)).mono fun k hk => by omega
    · exact (hrows4.frame (ha5.mono fun k hk => by omega)).mono fun k hk => by omega
    · exact (hfin3.frame (ha5.mono fun k hk => by omega)).mono fun k hk => by omega
    · exact hal.mono fun k hk => by omega

end Go.Proofs.YthomdogheamfpaaDoor
/- The automaton's methods. -/
set_option linter.unusedVariables false
set_option linter.unusedSimpArgs false
set_option maxRecDepth 100000
namespace Go.Proofs.YthomdogheamfpaaDoor
open Go.VC
attribute [local irreducible] mRun

def stN : Option AM → Nat
  | none => 1
  | some A => A.next.length
theorem ptrA : Tryd.prog.underlying 29 = some (.pointer 127) := rfl
theorem states_p {S : Nat → Prop} {H : Heap} {v : Value} {o : Option AM} (h : AutoV S H v o) : Pure Tryd.prog 27 #[v] H (.int .i64 (stN o : Int)) := by
  cases o with
  | none =>
    obtain rfl := h
    refine FnOk.of_vc Tryd.func27 rfl (Tryd.call27 _) ?_
    (conv => whnf); refine peqN ptrA ?_
    (conv => whnf); exact ⟨rfl, Agr.refl _ _⟩
  | some A =>
    obtain ⟨pb, rfl, hown, hok, ac, cc, an, cn, af, cf, aa, ca, al, hb, hsets, hnext, hfin, hal, hall, hlive⟩ := h
    have hcl : A.cell.length ≤ 256 := Nat.le_of_eq hok.cell
    refine FnOk.of_vc Tryd.func27 rfl (Tryd.call27 _) ?_
    (conv => whnf); refine peqS ptrA ?_
    (conv => whnf); refine fa fl127_2 ?_
    (conv => whnf); refine ld1 ct23 (by rw [hb.cell, Nat.zero_add]; exact autoL_257 hcl) trivial ?_
    (conv => whnf); exact ⟨rfl, Agr.refl _ _⟩
def finM : Option AM → Int → Bool
  | none, _ => false
  | some A, q => decide (0 ≤ q) && (A.final[q.toNat]?).getD false
theorem final_p {S : Nat → Prop} {H : Heap} {v : Value} {o : Option AM} {q : Int} (h : AutoV S H v o) : Pure Tryd.prog 36 #[v, .int .i64 q] H (.bool (finM o q)) := by
  cases o with
  | none =>
    obtain rfl := h
    refine FnOk.of_vc Tryd.func36 rfl (Tryd.call36 _) ?_
    (conv => whnf); refine pneqN ptrA ?_
    (conv => whnf); exact ⟨rfl, Agr.refl _ _⟩
  | some A =>
    obtain ⟨pb, rfl, hown, hok, ac, cc, an, cn, af, cf, aa, ca, al, hb, hsets, hnext, hfin, hal, hall, hlive⟩ := h
    have hcl : A.cell.length ≤ 256 := Nat.le_of_eq hok.cell
    have hfl := hok.fl
    have hn2 := hok.n2
    refine FnOk.of_vc Tryd.func36 rfl (Tryd.call36 _) ?_
    cases q with
    | negSucc n =>
      (conv => whnf); refine pneqS ptrA ?_
      (conv => whnf); exact ⟨rfl, Agr.refl _ _⟩
    | ofNat n =>
      (conv => whnf); refine pneqS ptrA ?_
      (conv => whnf); refine fa fl127_3 ?_
      (conv => whnf); refine ld1 ct24 (by rw [hb.cell, Nat.zero_add]; exact autoL_258 hcl) trivial ?_
      by_cases hnl : n < A.final.length
      · obtain ⟨f, hf⟩ := get_some hnl
        have hd : decide (Int.ofNat n < (A.final.length : Int)) = true := decide_eq_true (by simpa using hnl)
        (conv => whnf); rw [hd]
        (conv => whnf); refine fa fl127_3 ?_
        (conv => whnf); refine ld1 ct24 (by rw [hb.cell, Nat.zero_add]; exact autoL_258 hcl) trivial ?_
        (conv => whnf); refine ixr sl24 hfin hf rfl ?_
        rintro b3 o3 cs3 hSb3 hcells3 rfl
        (conv => whnf); refine ld1 ct4 hcells3.one trivial ?_
        (conv => whnf); exact ⟨by simp [finM, hf], Agr.refl _ _⟩
      · have hd : decide (Int.ofNat n < (A.final.length : Int)) = false := decide_eq_false (by simpa using hnl)
        (conv => whnf); rw [hd]
        (conv => whnf); exact ⟨by simp [finM, List.getElem?_eq_none (Nat.le_of_not_lt hnl)], Agr.refl _ _⟩

theorem autoL_at {cv nv fv av : Value} {cell : List Nat} {b c : Nat} (h : cell[b]? = some c) : (autoL cv cell nv fv av)[1 + b]? = some (.int .u8 (c : Int)) := by
  have hlt := (List.getElem?_eq_some_iff.1 h).1
  unfold autoL
  rw [List.cons_append, Nat.add_comm, List.getElem?_cons_succ, List.append_assoc, List.getElem?_append_left (by simpa using hlt), List.getElem?_map, h]
  rfl
def stepM (o : Option AM) (q : Int) (b : Nat) : Int :=
  if q < 0 ∨ (stN o : Int) ≤ q then -1 else match o with
    | none => 0
    | some A => ((A.next[q.toNat]?).getD []).getD (A.cell.getD b 0) 0
theorem stN_le {S : Nat → Prop} {H : Heap} {v : Value} {o : Option AM} (h : AutoV S H v o) : 1 ≤ stN o ∧ stN o ≤ 65536 := by
  cases o with
  | none => simp [stN]
  | some A => obtain ⟨pb, rfl, hown, hok, _⟩ := h; exact ⟨hok.n1, hok.n2⟩
theorem step_p {S : Nat → Prop} {H : Heap} {v : Value} {o : Option AM} {q : Int} {b : Nat} (hS : ∀ k, S k → k < H.size) (h : AutoV S H v o) (hb8 : b < 256) :
    Pure Tryd.prog 28 #[v, .int .i64 q, .int .u8 (b : Int)] H (.int .i64 (stepM o q b)) := by
  refine FnOk.of_vc Tryd.func28 rfl (Tryd.call28 _) ?_
  cases q with
  | negSucc n =>
    have hd : decide (Int.negSucc n < 0) = true := decide_eq_true (Int.negSucc_lt_zero n)
    (conv => whnf); rw [hd]
    (conv => whnf); exact ⟨by simp [stepM, Int.negSucc_lt_zero], Agr.refl _ _⟩
  | ofNat n =>
    (conv => whnf); refine pures (states_p h) fun H1 ha1 => ?_
    have h1 := h.frame (ha1.mono hS)
    by_cases hn : stN o ≤ n
    · have hd : decide ((stN o : Int) ≤ Int.ofNat n) = true := decide_eq_true (by simpa using hn)
      (conv => whnf); rw [hd]
      (conv => whnf); exact ⟨by simp [stepM, hn], ha1⟩
    · have hd : decide ((stN o : Int) ≤ Int.ofNat n) = false := decide_eq_false (by simpa using hn)
      (conv => whnf); rw [hd]
      have hst : ∀ x, x = (match o with | none => (0 : Int) | some A => ((A.next[n]?).getD []).getD (A.cell.getD b 0) 0) → stepM o (Int.ofNat n) b = x := by
        intro x hx
        subst hx
        unfold stepM
        rw [if_neg (by simp; omega)]
        cases o <;> rfl
      cases o with
      | none =>
        obtain rfl := h1
        (conv => whnf); refine peqN ptrA ?_
        (conv => whnf); exact ⟨by rw [hst 0 rfl], ha1⟩
      | some A =>
        obtain ⟨pb, rfl, hown, hok, ac, cc, an, cn, af, cf, aa, ca, al, hb, hsets, hnext, hfin, hal, hall, hlive⟩ := h1
        have hcl : A.cell.length ≤ 256 := Nat.le_of_eq hok.cell
        simp only [stN] at hn
        obtain ⟨row, hrow⟩ := get_some (l := A.next) (k := n) (by omega)
        obtain ⟨c, hc⟩ := get_some (l := A.cell) (k := b) (by rw [hok.cell]; exact hb8)
        have hrl := (hok.rows row (List.mem_of_getElem? hrow)).1
        have hcp := hok.places c (List.mem_of_getElem? hc)
        obtain ⟨t, ht⟩ := get_some (l := row) (k := c) (by omega)
        (conv => whnf); refine peqS ptrA ?_
        (conv => whnf); refine VDraw.lex rfl (by kernel_rfl) ?_
        (conv => whnf); refine fa fl127_2 ?_
        (conv => whnf); refine ld1 ct23 (by rw [hb.cell, Nat.zero_add]; exact autoL_257 hcl) trivial ?_
        (conv => whnf); refine ixr sl23 hnext hrow rfl ?_
        rintro b2 o2 cs2 hSb2 hcells2 ⟨ra, rc, rfl, hr⟩
        (conv => whnf); refine ld1 ct33 hcells2.one trivial ?_
        (conv => whnf); refine fa fl127_1 ?_
        (conv => whnf); refine ixa ar125 (by omega) (by omega) ?_
        (conv => whnf); refine ld1 (v := .int .u8 (c : Int)) ct5 (by rw [hb.cell, show 0 + 1 + (b : Int).toNat * 1 = 1 + b by omega]; exact autoL_at hc) trivial ?_
        (conv => whnf); refine ixr sl33 hr ht rfl ?_
        rintro b3 o3 cs3 hSb3 hcells3 ⟨rfl, -⟩
        (conv => whnf); refine ld1 ct3 hcells3.one trivial ?_
        (conv => whnf); exact ⟨by rw [hst t (by simp [hrow, hc, ht, List.getD_eq_getElem?_getD])], ha1⟩

def runM (o : Option AM) (s : ByteArray) (k : Nat) : Int := (s.data.toList.take k).foldl (fun q b => stepM o q b.toNat) 0
theorem runM_succ {o : Option AM} {s : ByteArray} {k : Nat} {b : UInt8} (h : s.data[k]? = some b) : runM o s (k + 1) = stepM o (runM o s k) b.toNat := by
  unfold runM
  rw [take_succ_snoc (x := b) (by rw [Array.getElem?_toList]; exact h), List.foldl_append]; rfl
theorem strT : Tryd.prog.underlying 9 = some .string := rfl
theorem get_byte {s : ByteArray} {k : Nat} (h : k < s.size) : ∃ b, s.data[k]? = some b := ⟨s.data[k]'h, Array.getElem?_eq_getElem h⟩
def acceptsM (o : Option AM) (s : ByteArray) : Bool := finM o (runM o s s.size)
theorem accepts_p {S : Nat → Prop} {H : Heap} {v : Value} {o : Option AM} {s : ByteArray} (hS : ∀ k, S k → k < H.size) (h : AutoV S H v o) (hs : s.size ≤ maxLen) :
    Pure Tryd.prog 25 #[v, .string s] H (.bool (acceptsM o s)) := by
  unfold maxLen at hs
  refine FnOk.of_vc Tryd.func25 rfl (Tryd.call25 _) ?_
  (conv => whnf)
  refine VLoop.mk [5, 9] (fun k : Nat => [.int .i64 (runM o s k), .int .i64 k]) (fun k H2 => k ≤ s.size ∧ Agr (Old H) H H2) (fun k _ => s.size - k) ?_ ?_
  · (conv => whnf); exact ⟨0, rfl, by omega, Agr.refl _ _⟩
  · rintro k H2 junk ⟨hk, ha2⟩
    have h2 := h.frame (ha2.mono hS)
    (conv => whnf); refine VIte.mk (fun h => ?_) (fun h => ?_) <;> simp only [decide_eq_true_eq, decide_eq_false_iff_not] at h
    · obtain ⟨b, hb⟩ := get_byte (s := s) (k := k) (by omega)
      (conv => whnf); refine vidxs strT rfl hb ?_
      (conv => whnf); refine pures (step_p (fun k hk => old_lt ha2 (hS k hk)) h2 (UInt8.toNat_lt b)) fun H3 ha3 => ?_
      (conv => whnf); rw [w64 (x := (k : Int) + 1) (by omega) (by omega)]
      exact ⟨rfl, k + 1, by rw [runM_succ hb]; simp, ⟨by omega, ha2.trans (ha3.mono fun k hk => old_lt ha2 hk)⟩, by omega⟩
    · obtain rfl : k = s.size := by omega
      (conv => whnf); refine pures (final_p h2) fun H3 ha3 => ?_
      (conv => whnf); exact ⟨rfl, ha2.trans (ha3.mono fun k hk => old_lt ha2 hk)⟩

open Classical in
noncomputable def aliveM : Option AM → Int → Bool
  | none, _ => false
  | some A, q => decide (LiveT A.next A.final q.toNat)
theorem stepM_range {A : AM} (hok : A.Ok) {q : Int} {b : Nat} (h0 : 0 ≤ q) (h1 : q < A.next.length) (hb : b < 256) : 0 ≤ stepM (some A) q b ∧ stepM (some A) q b < A.next.length := by
  obtain ⟨n, rfl⟩ := Int.eq_ofNat_of_zero_le h0
  obtain ⟨row, hrow⟩ := get_some (l := A.next) (k := n) (by omega)
  obtain ⟨c, hc⟩ := get_some (l := A.cell) (k := b) (by rw [hok.cell]; exact hb)
  have hrl := hok.rows row (List.mem_of_getElem? hrow)
  have hcp := hok.places c (List.mem_of_getElem? hc)
  obtain ⟨t, ht⟩ := get_some (l := row) (k := c) (by omega)
  unfold stepM
  rw [if_neg (by simp [stN]; omega)]
  simp only [Int.toNat_natCast, hrow, List.getD_eq_getElem?_getD, hc, Option.getD_some, ht]
  exact hrl.2 t (List.mem_of_getElem? ht)
end Go.Proofs.YthomdogheamfpaaDoor
/- dfa.Cells; two and speaks of the laws of layer 5. -/
set_option linter.unusedVariables false
set_option linter.unusedSimpArgs false
set_option maxRecDepth 100000
namespace Go.Proofs.YthomdogheamfpaaDoor
open Go.VC
attribute [local irreducible] mRun

theorem tSet_ones : tSet.Ones := by
  intro S H cs x h u hu
  obtain rfl := h
  simp [setL] at hu
  rcases hu with rfl | rfl | rfl | rfl <;> rfl
theorem tSet_free : tSet.Free := fun S S' H H' cs x h => h
theorem SlD.ofBlk {α : Type} {T : Ty α} {S : Nat → Prop} {H : Heap} {b n : Nat} {e : TypeId} {l : List Value} {xs : List α} (hb : Blk H b e l) (hS : S b) (hr : T.reps S H l xs) (hn : n = xs.length) (hm : n ≤ maxLen) : SlD T S H (some ⟨b, 0, none⟩) n xs :=
  SlD.intro hS (Nat.le_of_eq hn.symm) hm (hb.cells (fun j v hv => by rw [Nat.zero_add]; exact hv)) hr
def cellsM : Option AM → List (BitVec 256)
  | none => [BitVec.allOnes 256]
  | some A => A.sets
def Fresh (H H' : Heap) (k : Nat) : Prop := H.size ≤ k ∧ k < H'.size
end Go.Proofs.YthomdogheamfpaaDoor
/- dfa.Cells, as memory of the call's own. -/
set_option linter.unusedVariables false
set_option linter.unusedSimpArgs false
set_option maxRecDepth 100000
namespace Go.Proofs.YthomdogheamfpaaDoor
open Go.VC
attribute [local irreducible] mRun

/-! ### dfa.Cells, as memory of the call's own -/
theorem cells_o {S : Nat → Prop} {H : Heap} {v : Value} {o : Option AM} (hS : ∀ k, S k → k < H.size) (h : AutoV S H v o) :
    FnOk Tryd.prog 40 #[v] H fun v' H' => Agr (Old H) H H' ∧ H.size ≤ H'.size ∧ SlO tSet (fun _ => False) H' H.size 73 v' (cellsM o) := by
  refine FnOk.of_vc Tryd.func40 rfl (Tryd.call40 _) ?_
  cases o with
  | none =>
    obtain rfl := h
    (conv => whnf); refine peqN ptrA ?_
    (conv => whnf); refine pures (span_p 0 255 (by decide) (by decide) H) fun H1 ha1 => ?_
    rw [spanS_full]
    have hs1 := old_size ha1
    (conv => whnf); refine vbuild1 sl83 (setL (BitVec.allOnes 256)) rfl rfl (by decide) (by decide) ?_
    intro b H2 hb hs2 hb2 ha2
    (conv => whnf)
    exact ⟨ha1.trans (ha2.mono fun k hk => by unfold Old at hk; omega), by omega, SlO.ofBlk (by omega) hb2 (Ty.reps_one rfl) rfl (by decide)⟩
  | some A =>
    obtain ⟨pb, rfl, hown, hok, ac, cc, an, cn, af, cf, aa, ca, al, hb, hsets, hnext, hfin, hal, hall, hlive⟩ := h
    have hcl : A.cell.length ≤ 256 := Nat.le_of_eq hok.cell
    have hsl := hok.sl
    (conv => whnf); refine peqS ptrA ?_
    (conv => whnf); refine VC.fa fl127_0 ?_
    (conv => whnf); refine ld1 ct83 (by rw [hb.cell]; exact autoL_0) trivial ?_
    (conv => whnf); refine vappendD (T := tSet) (S := S) (lo := H.size) (xs := []) sl83 tSet_ones SlO.nil (Nat.le_refl _) (fun k hk => ⟨hS k hk, ?_⟩) hsets (by simp only [maxLen, List.length_nil]; omega) (by simp only [List.length_nil]; omega) ?_
    · rintro ⟨o, n, c, h⟩; cases h
    intro v2 H2 hown2 ha2 hs2 _
    rw [List.nil_append] at hown2
    (conv => whnf)
    exact ⟨ha2.mono fun k hk => ⟨hk, fun hb => by obtain ⟨o, n, c, h⟩ := hb; cases h⟩, hs2, hown2.free tSet_free⟩

end Go.Proofs.YthomdogheamfpaaDoor
/- class.Not, class.Minus, class.Atoms. -/
set_option linter.unusedVariables false
set_option linter.unusedSimpArgs false
set_option maxRecDepth 100000
namespace Go.VC
theorem xor_ones {x : Nat} (h : x < 18446744073709551616) : 18446744073709551615 ^^^ x = 18446744073709551615 - x := by
  have h1 : (BitVec.ofNat 64 x ^^^ BitVec.allOnes 64).toNat = (~~~(BitVec.ofNat 64 x)).toNat := by rw [BitVec.xor_allOnes]
  rw [BitVec.toNat_xor, BitVec.toNat_not, BitVec.toNat_ofNat, BitVec.toNat_allOnes, Nat.mod_eq_of_lt (by simpa using h), Nat.xor_comm] at h1
  simpa using h1
theorem vxor1 {P : Program} {x : Nat} {S : Nat → Prop} {H : Heap} {K : Value → Prop} (hx : x < 18446744073709551616) (k : K (.int .u64 ((18446744073709551615 - x : Nat) : Int))) : VDet P (Op.unary .xor (.int .u64 (x : Int))) S H K := by
  refine VDet.mk _ (fun w _ => ?_) k
  have h1 : IntKind.u64.max = 18446744073709551615 := rfl
  have h2 : IntKind.u64.signed = false := rfl
  have e1 : (BitVec.ofInt IntKind.u64.bits (18446744073709551615 : Int) ^^^ BitVec.ofInt IntKind.u64.bits (x : Int)).toNat = 18446744073709551615 - x := by
    show (BitVec.ofInt 64 ((18446744073709551615 : Nat) : Int) ^^^ BitVec.ofInt 64 (x : Int)).toNat = _
    rw [BitVec.ofInt_natCast, BitVec.ofInt_natCast, BitVec.toNat_xor, BitVec.toNat_ofNat, BitVec.toNat_ofNat, Nat.mod_eq_of_lt (a := x) hx]
    exact xor_ones hx
  have e2 : IntKind.wrap .u64 ((18446744073709551615 - x : Nat) : Int) = ((18446744073709551615 - x : Nat) : Int) := wrap_in ⟨by show (0 : Int) ≤ _; omega, by rw [h1]; omega⟩
  show (pure (Value.int .u64 (IntKind.wrap .u64 ((BitVec.ofInt IntKind.u64.bits (if IntKind.u64.signed = true then (-1 : Int) else IntKind.u64.max) ^^^ BitVec.ofInt IntKind.u64.bits (x : Int)).toNat : Int))) : Sem Value).run P w = _
  rw [h2, h1]
  simp only [Bool.false_eq_true, if_false]
  rw [e1, e2]
  rfl
end Go.VC
namespace Go.Proofs.YthomdogheamfpaaDoor
open Go.VC

theorem wd_not (a : BitVec 256) (i : Nat) (hi : i < 4) : wd (~~~a) i = 18446744073709551615 - wd a i := by
  have ha := a.isLt
  unfold wd
  rw [BitVec.toNat_not]
  match i, hi with
  | 0, _ => simp only [Nat.reduceMul, Nat.reducePow] at *; omega
  | 1, _ => simp only [Nat.reduceMul, Nat.reducePow] at *; omega
  | 2, _ => simp only [Nat.reduceMul, Nat.reducePow] at *; omega
  | 3, _ => simp only [Nat.reduceMul, Nat.reducePow] at *; omega
theorem not_c (a : BitVec 256) (H : Heap) : Pure Tryd.prog 97 #[setV a] H (setV (~~~a)) := by
  have hw : ∀ i, wd a i < 18446744073709551616 := fun i => wd_lt a i
  refine FnOk.of_vc Tryd.func97 rfl (Tryd.call97 _) ?_
  (conv => whnf); refine vbox (setL a) rfl ?_
  intro p H1 hp hs1 hb1 ha1
  (conv => whnf); refine valloc (setV 0) (setL 0) rfl rfl ?_
  intro r H3 hr hs3 hb3 ha3
  replace hb1 := hb1.agr ha3 (show p < r by omega)
  (conv => whnf); refine ixa ar73 (by decide) (by decide) ?_
  (conv => whnf); refine ld1 ct69 ((hb1.cell _).trans rfl) trivial ?_
  (conv => whnf); refine vxor1 (hw _) ?_
  (conv => whnf); refine ixa ar73 (by decide) (by decide) ?_
  (conv => whnf); refine ld1 ct69 ((hb1.cell _).trans rfl) trivial ?_
  (conv => whnf); refine vxor1 (hw _) ?_
  (conv => whnf); refine ixa ar73 (by decide) (by decide) ?_
  (conv => whnf); refine ld1 ct69 ((hb1.cell _).trans rfl) trivial ?_
  (conv => whnf); refine vxor1 (hw _) ?_
  (conv => whnf); refine ixa ar73 (by decide) (by decide) ?_
  (conv => whnf); refine ld1 ct69 ((hb1.cell _).trans rfl) trivial ?_
  (conv => whnf); refine vxor1 (hw _) ?_
  rw [← wd_not a 0 (by decide), ← wd_not a 1 (by decide), ← wd_not a 2 (by decide), ← wd_not a 3 (by decide)]
  (conv => whnf); refine vbuildA ar73 (setV 0) rfl (setL (~~~a)) rfl ?_
  (conv => whnf); refine VC.stN rfl hb3 (show 0 + 4 ≤ 4 by decide) rfl ?_
  intro H4 hb4 ha4 hs4
  (conv => whnf); refine ldN (cs := setL (~~~a)) ag73 (hb4.cells (fun j v hv => by simpa [splice, setL] using hv)) trivial ?_
  exact ⟨rfl, fun k hk => by rw [ha4 k (by omega), ha3 k (by omega), ha1 k (by omega)]⟩
theorem minus_c (a b : BitVec 256) (H : Heap) : Pure Tryd.prog 110 #[setV a, setV b] H (setV (a &&& ~~~b)) := by
  refine FnOk.of_vc Tryd.func110 rfl (Tryd.call110 _) ?_
  (conv => whnf); refine vbox (setL a) rfl ?_
  intro p H1 hp hs1 hb1 ha1
  have st1 := (St.nil H).box hp hs1 hb1 ha1
  (conv => whnf); refine vbox (setL b) rfl ?_
  intro q H2 hq hs2 hb2 ha2
  have st2 := st1.box hq hs2 hb2 ha2
  (conv => whnf); refine valloc (setV 0) (setL 0) rfl rfl ?_
  intro r H3 hr hs3 hb3 ha3
  have st3 := st2.box hr hs3 hb3 ha3
  (conv => whnf); refine VDraw.held (Old H3) 4 (sq [0,1] (.f 2 (.f 3 (.f 4 .e)))) rfl (by kernel_rfl) ?_
  (conv => whnf); refine ldN (cs := setL a) ag73 ((st3.blk 0 rfl).cells fun j v hv => by rw [Nat.zero_add]; exact hv) (st3.blk 0 rfl).lt ?_
  (conv => whnf); refine ldN (cs := setL b) ag73 ((st3.blk 1 rfl).cells fun j v hv => by rw [Nat.zero_add]; exact hv) (st3.blk 1 rfl).lt ?_
  (conv => whnf); refine pures (not_c b H3) fun H4 ha4 => ?_
  have st4 := st3.call ha4
  refine ⟨ha4, ?_⟩
  (conv => whnf); refine pures (meet_c a (~~~b) H4) fun H5 ha5 => ?_
  have st5 := st4.call ha5
  refine ⟨ha4.trans (ha5.mono fun k hk => old_lt ha4 hk), ?_⟩
  (conv => whnf); refine stNB (cs := setL (a &&& ~~~b)) st5 2 rfl rfl (show 0 + 4 ≤ 4 by decide) rfl fun H6 st6 => ?_
  (conv => whnf); refine ldN (cs := setL (a &&& ~~~b)) ag73 ((st6.blk 2 rfl).cells (fun j v hv => by simpa [splice, setL] using hv)) trivial ?_
  exact ⟨rfl, st6.old⟩
end Go.Proofs.YthomdogheamfpaaDoor

/- class.Atoms: the plain law. -/
set_option linter.unusedVariables false
set_option linter.unusedSimpArgs false
set_option maxRecDepth 100000
namespace Go.Proofs.YthomdogheamfpaaDoor
open Go.VC

/-- The two parts of b, without what is empty. -/
def cutB (s b : BitVec 256) : List (BitVec 256) := [b &&& s, b &&& ~~~s].filter fun x => !decide (x = 0)
def partB (bl : List (BitVec 256)) (s : BitVec 256) : List (BitVec 256) := bl.flatMap (cutB s)
def blocksM (sets : List (BitVec 256)) : List (BitVec 256) := sets.foldl partB [BitVec.allOnes 256]
def atomsAt (bl : List (BitVec 256)) (b : Nat) : List (BitVec 256) := bl.filter fun s => (nextM s 0).1 == b
def atomsM (sets : List (BitVec 256)) : List (BitVec 256) := (List.range 256).flatMap (atomsAt (blocksM sets))
def repsM (sets : List (BitVec 256)) : List Nat := (atomsM sets).map fun c => (nextM c 0).1

theorem bits_zero (x : BitVec 256) (h : ∀ b, b < 256 → x.getLsbD b = false) : x = 0 := by
  apply BitVec.eq_of_getLsbD_eq
  intro i hi
  rw [h i hi]; simp
theorem least_of {x : BitVec 256} (h : x ≠ 0) : x.getLsbD (nextM x 0).1 = true ∧ ∀ b, b < (nextM x 0).1 → x.getLsbD b = false := by
  unfold nextM
  cases hf : (List.range 256).find? fun b => decide (0 ≤ b) && x.getLsbD b with
  | none =>
    exfalso
    apply h
    apply bits_zero
    intro b hb
    have := List.find?_eq_none.1 hf b (List.mem_range.2 hb)
    simpa using this
  | some c =>
    have h1 := List.find?_some hf
    simp only [Nat.zero_le, decide_true, Bool.true_and] at h1
    refine ⟨h1, fun b hb => ?_⟩
    have hc : c < 256 := by simpa using List.mem_of_find?_eq_some hf
    obtain ⟨_, i, hi, hge, hbef⟩ := List.find?_eq_some_iff_getElem.1 hf
    simp only [List.getElem_range] at hge
    subst hge
    have := hbef b hb
    simpa using this
theorem cut_ne (s b : BitVec 256) : ∀ x ∈ cutB s b, x ≠ 0 := fun x hx => by
  have := (List.mem_filter.1 hx).2
  simpa using this
theorem cut_at (s b : BitVec 256) {c : Nat} (h : b.getLsbD c = true) : ∃ x ∈ cutB s b, x.getLsbD c = true := by
  have hc : c < 256 := by
    apply Classical.byContradiction
    intro hn
    rw [BitVec.getLsbD_of_ge _ _ (by omega)] at h; cases h
  have key : ∀ x : BitVec 256, x.getLsbD c = true → x ≠ 0 := fun x hx h0 => by rw [h0] at hx; simp at hx
  cases hs : s.getLsbD c with
  | true =>
    have h1 : (b &&& s).getLsbD c = true := by rw [BitVec.getLsbD_and, h, hs]; rfl
    exact ⟨b &&& s, List.mem_filter.2 ⟨by simp, by rw [decide_eq_false (key _ h1)]; rfl⟩, h1⟩
  | false =>
    have h1 : (b &&& ~~~s).getLsbD c = true := by rw [BitVec.getLsbD_and, BitVec.getLsbD_not, h, hs]; simp [hc]
    exact ⟨b &&& ~~~s, List.mem_filter.2 ⟨by simp, by rw [decide_eq_false (key _ h1)]; rfl⟩, h1⟩
theorem cut_sub (s b : BitVec 256) {x : BitVec 256} (hx : x ∈ cutB s b) {c : Nat} (h : x.getLsbD c = true) : b.getLsbD c = true := by
  have := (List.mem_filter.1 hx).1
  rcases List.mem_cons.1 this with rfl | this
  · rw [BitVec.getLsbD_and, Bool.and_eq_true] at h; exact h.1
  · rw [List.mem_singleton] at this
    subst this
    rw [BitVec.getLsbD_and, Bool.and_eq_true] at h; exact h.1
theorem cut_same (s b : BitVec 256) {x : BitVec 256} (hx : x ∈ cutB s b) {c d : Nat} (h : x.getLsbD c = true) (k : x.getLsbD d = true) : s.getLsbD c = s.getLsbD d := by
  have := (List.mem_filter.1 hx).1
  rcases List.mem_cons.1 this with rfl | this
  · rw [BitVec.getLsbD_and, Bool.and_eq_true] at h k; rw [h.2, k.2]
  · rw [List.mem_singleton] at this
    subst this
    rw [BitVec.getLsbD_and, Bool.and_eq_true, BitVec.getLsbD_not] at h k
    have h2 := h.2; have k2 := k.2
    simp only [Bool.and_eq_true, Bool.not_eq_true'] at h2 k2
    rw [h2.2, k2.2]
theorem count_pos {x : BitVec 256} (h : x ≠ 0) : 1 ≤ countM x := by
  have h1 := (least_of h).1
  have h2 := nextM_lt x 0
  unfold countM
  exact List.length_pos_of_mem (a := (nextM x 0).1) (List.mem_filter.2 ⟨List.mem_range.2 h2, h1⟩)
theorem filter_two (p q r : Nat → Bool) : ∀ l : List Nat, (∀ c ∈ l, (p c = true ∧ q c = false ∧ r c = true) ∨ (p c = false ∧ q c = true ∧ r c = true) ∨ (p c = false ∧ q c = false ∧ r c = false)) → (l.filter p).length + (l.filter q).length = (l.filter r).length
  | [], _ => rfl
  | c :: l, h => by
    have ih := filter_two p q r l fun d hd => h d (List.mem_cons_of_mem _ hd)
    rcases h c List.mem_cons_self with ⟨h1, h2, h3⟩ | ⟨h1, h2, h3⟩ | ⟨h1, h2, h3⟩ <;> simp only [List.filter_cons, h1, h2, h3, if_true, Bool.false_eq_true, if_false, List.length_cons] <;> omega
theorem count_cut (s b : BitVec 256) : countM (b &&& s) + countM (b &&& ~~~s) = countM b := by
  unfold countM
  refine filter_two _ _ _ _ fun c hc => ?_
  have hc := List.mem_range.1 hc
  have e1 : (b &&& s).getLsbD c = (b.getLsbD c && s.getLsbD c) := BitVec.getLsbD_and
  have e2 : (b &&& ~~~s).getLsbD c = (b.getLsbD c && !s.getLsbD c) := by rw [BitVec.getLsbD_and, BitVec.getLsbD_not]; simp [hc]
  rw [e1, e2]
  cases b.getLsbD c <;> cases s.getLsbD c <;> simp
theorem count_zero : countM 0 = 0 := by
  unfold countM
  simp
theorem cut_sum (s b : BitVec 256) : ((cutB s b).map countM).sum = countM b := by
  rw [← count_cut s b]
  unfold cutB
  have key : ∀ x : BitVec 256, (([x].filter fun x => !decide (x = 0)).map countM).sum = countM x := fun x => by
    by_cases h : x = 0
    · subst h; rw [count_zero]; rfl
    · rw [List.filter_cons_of_pos (by rw [decide_eq_false h]; rfl)]; simp
  rw [show [b &&& s, b &&& ~~~s] = [b &&& s] ++ [b &&& ~~~s] from rfl, List.filter_append, List.map_append, List.sum_append, key, key]
/-- What the blocks of given sets are like. -/
structure PartOk (bl sets : List (BitVec 256)) : Prop where
  ne : ∀ x ∈ bl, x ≠ 0
  all : ∀ c, c < 256 → ∃ x ∈ bl, x.getLsbD c = true
  same : ∀ x ∈ bl, ∀ c d, x.getLsbD c = true → x.getLsbD d = true → ∀ s ∈ sets, s.getLsbD c = s.getLsbD d
  sum : (bl.map countM).sum = 256
theorem PartOk.len {bl sets : List (BitVec 256)} (h : PartOk bl sets) : bl.length ≤ 256 := by
  refine Nat.le_trans ?_ (Nat.le_of_eq h.sum)
  have key : ∀ l : List (BitVec 256), (∀ x ∈ l, x ≠ 0) → l.length ≤ (l.map countM).sum := by
    intro l
    induction l with
    | nil => intro _; exact Nat.le_refl _
    | cons x l ih =>
      intro h
      have := ih fun y hy => h y (List.mem_cons_of_mem _ hy)
      have := count_pos (h x List.mem_cons_self)
      simp only [List.length_cons, List.map_cons, List.sum_cons]; omega
  exact key bl h.ne
theorem PartOk.cut {bl sets : List (BitVec 256)} (h : PartOk bl sets) (s : BitVec 256) : PartOk (partB bl s) (sets ++ [s]) := by
  refine ⟨fun x hx => ?_, fun c hc => ?_, fun x hx c d hxc hxd t ht => ?_, ?_⟩
  · obtain ⟨b, hb, hx⟩ := List.mem_flatMap.1 hx
    exact cut_ne s b x hx
  · obtain ⟨b, hb, hbc⟩ := h.all c hc
    obtain ⟨x, hx, hxc⟩ := cut_at s b hbc
    exact ⟨x, List.mem_flatMap.2 ⟨b, hb, hx⟩, hxc⟩
  · obtain ⟨b, hb, hx⟩ := List.mem_flatMap.1 hx
    rcases List.mem_append.1 ht with ht | ht
    · exact h.same b hb c d (cut_sub s b hx hxc) (cut_sub s b hx hxd) t ht
    · rw [List.mem_singleton] at ht
      subst ht
      exact cut_same t b hx hxc hxd
  · refine Eq.trans ?_ h.sum
    unfold partB
    clear h
    induction bl with
    | nil => rfl
    | cons b bl ih =>
      rw [List.flatMap_cons, List.map_append, List.sum_append, ih, cut_sum, List.map_cons, List.sum_cons]
theorem part_ok (sets : List (BitVec 256)) : PartOk (blocksM sets) sets := by
  have key : ∀ (rest done bl : List (BitVec 256)), PartOk bl done → PartOk (rest.foldl partB bl) (done ++ rest) := by
    intro rest
    induction rest with
    | nil => intro done bl h; simpa using h
    | cons s rest ih =>
      intro done bl h
      have := ih (done ++ [s]) (partB bl s) (h.cut s)
      simpa using this
  refine key sets [] [BitVec.allOnes 256] ⟨fun x hx => ?_, fun c hc => ⟨_, List.mem_singleton.2 rfl, by rw [BitVec.getLsbD_allOnes]; exact decide_eq_true hc⟩, fun x hx c d _ _ s hs => (by cases hs), by kernel_rfl⟩
  rw [List.mem_singleton] at hx
  subst hx
  decide
theorem reps_lt (sets : List (BitVec 256)) : ∀ r ∈ repsM sets, r < 256 := fun r hr => by
  obtain ⟨x, -, rfl⟩ := List.mem_map.1 hr
  exact nextM_lt x 0
theorem reps_cov (sets : List (BitVec 256)) {c : Nat} (hc : c < 256) : ∃ r ∈ repsM sets, r ≤ c ∧ ∀ s ∈ sets, s.getLsbD r = s.getLsbD c := by
  have h := part_ok sets
  obtain ⟨x, hx, hxc⟩ := h.all c hc
  obtain ⟨l1, l2⟩ := least_of (h.ne x hx)
  refine ⟨(nextM x 0).1, List.mem_map.2 ⟨x, List.mem_flatMap.2 ⟨(nextM x 0).1, List.mem_range.2 (nextM_lt x 0), List.mem_filter.2 ⟨hx, by simp⟩⟩, rfl⟩, ?_, fun s hs => h.same x hx _ _ l1 hxc s hs⟩
  apply Classical.byContradiction
  intro hn
  have := l2 c (by omega)
  rw [hxc] at this; cases this
theorem filter_one (k : Nat) : ∀ n, ((List.range n).filter fun b => k == b).length = if k < n then 1 else 0
  | 0 => rfl
  | n + 1 => by
    rw [List.range_succ, List.filter_append, List.length_append, filter_one k n, List.filter_cons, List.filter_nil]
    cases hb : (k == n) with
    | true =>
      have h := beq_iff_eq.1 hb
      subst h
      simp
    | false =>
      have h : k ≠ n := fun h => by rw [h] at hb; simp at hb
      rw [if_neg (show ¬ (false = true) by decide)]
      by_cases h2 : k < n
      · rw [if_pos h2, if_pos (show k < n + 1 by omega)]; rfl
      · rw [if_neg h2, if_neg (show ¬ k < n + 1 by omega)]; rfl
theorem reps_len (sets : List (BitVec 256)) : (atomsM sets).length ≤ 256 := by
  have h := (part_ok sets).len
  have key : ∀ (bl : List (BitVec 256)), ((List.range 256).flatMap (atomsAt bl)).length = bl.length := by
    intro bl
    induction bl with
    | nil => 
      have : ∀ l : List Nat, l.flatMap (atomsAt []) = [] := fun l => by simp [atomsAt]
      rw [this]
    | cons x bl ih =>
      have e : ∀ l : List Nat, (l.flatMap (atomsAt (x :: bl))).length = (l.flatMap (atomsAt bl)).length + (l.filter fun b => (nextM x 0).1 == b).length := by
        intro l
        induction l with
        | nil => rfl
        | cons b l ih =>
          rw [List.flatMap_cons, List.flatMap_cons, List.length_append, List.length_append, ih, List.filter_cons]
          have : (atomsAt (x :: bl) b).length = (atomsAt bl b).length + if ((nextM x 0).1 == b) = true then 1 else 0 := by
            unfold atomsAt
            rw [List.filter_cons]
            split <;> simp
          rw [this]
          split <;> simp <;> omega
      rw [e, ih, List.length_cons]
      congr 1
      rw [filter_one, if_pos (nextM_lt x 0)]
  unfold atomsM
  rw [key]; exact h
end Go.Proofs.YthomdogheamfpaaDoor

/- class.Atoms: the walk. -/
set_option linter.unusedVariables false
set_option linter.unusedSimpArgs false
set_option maxRecDepth 100000
namespace Go.VC
theorem ixvN {P : Program} {t len e sz : Nat} {k : IntKind} {i : Int} {cs : Array Value} {S : Nat → Prop} {H : Heap} {K : Value → Prop} (ht : ArrT P t len e sz) (hc : AggT P e sz) (h0 : 0 ≤ i) (h1 : i < len)
    (hk : K (.agg (cs.extract (i.toNat * sz) (i.toNat * sz + sz)))) : VDet P (Instr.index t (.agg cs) (.int k i)) S H K := by
  refine VDet.mk _ (fun w _ => ?_) hk
  cases hi : P.info? e with
  | none => have := ht.size; simp [hi] at this
  | some inf =>
    have hs : inf.size = sz := by have := ht.size; simpa [hi] using this
    simp [Instr.index, asIntOf, run_underlying ht.under, h0, h1, sizeOf, typeInfo, hi, hs, run_partN hc]
/-- New memory with room to grow. -/
theorem StB.newCap {α : Type} {T : Ty α} {e : TypeId} {B : Nat → Prop} {H0 H H' : Heap} {ps : List Pc} {b cap : Nat} {l : List Value} (st : StB B H0 H ps) (hb : b = H.size) (hs : H'.size = b + 1) (hk : Blk H' b e l) (ha : Agr (fun k => k < b) H H') (hl : l.length = cap * T.size) (hm : cap ≤ maxLen) : StB B H0 H' (ps ++ [pS T e (some ⟨b, 0, none⟩) 0 cap []]) := by
  subst hb
  have h := Sl.made (sz := T.size) (n := 0) (cap := cap) (Nat.zero_le _) hk (Nat.zero_le _) hm hl
  rw [Nat.zero_mul, List.take_zero] at h
  refine st.add (ha.mono fun k hk => hk) _ ⟨⟨[], h, rfl⟩, fun k hk => hk.elim⟩ fun k hk => ?_
  rcases hk with ⟨o, n', c, h⟩ | h
  · cases h; omega
  · exact h.elim
end Go.VC
namespace Go.Proofs.YthomdogheamfpaaDoor
open Go.VC

theorem cutB_len (s b : BitVec 256) : (cutB s b).length ≤ 2 := Nat.le_trans (List.length_filter_le _ _) (Nat.le_refl 2)
theorem partB_len (s : BitVec 256) : ∀ bl : List (BitVec 256), (bl.flatMap (cutB s)).length ≤ 2 * bl.length
  | [] => Nat.le_refl _
  | b :: bl => by
    have h1 := partB_len s bl
    have h2 := cutB_len s b
    rw [List.flatMap_cons, List.length_append, List.length_cons]; omega
theorem take_flat {α β : Type} (f : α → List β) {l : List α} {k : Nat} {x : α} (h : l[k]? = some x) : (l.take (k + 1)).flatMap f = (l.take k).flatMap f ++ f x := by
  rw [take_succ_snoc h, List.flatMap_append]; simp
theorem blocks_succ {sets : List (BitVec 256)} {k : Nat} {s : BitVec 256} (h : sets[k]? = some s) : blocksM (sets.take (k + 1)) = (blocksM (sets.take k)).flatMap (cutB s) := by
  unfold blocksM
  rw [take_succ_snoc h, List.foldl_append]; rfl
theorem zero2 : (Tryd.prog.info? 195).bind (·.zero) = some (.agg #[.int .u64 0, .int .u64 0, .int .u64 0, .int .u64 0, .int .u64 0, .int .u64 0, .int .u64 0, .int .u64 0]) := by kernel_rfl
theorem fill2 (x y : BitVec 256) : Instr.fill (fun i => some (i * 4, 4)) (Value.agg #[.int .u64 0, .int .u64 0, .int .u64 0, .int .u64 0, .int .u64 0, .int .u64 0, .int .u64 0, .int .u64 0]).cells [(0, setV x), (1, setV y)] = some (setL x ++ setL y).toArray := by
  unfold setV setL
  generalize wd x 0 = a0
  generalize wd x 1 = a1
  generalize wd x 2 = a2
  generalize wd x 3 = a3
  generalize wd y 0 = b0
  generalize wd y 1 = b1
  generalize wd y 2 = b2
  generalize wd y 3 = b3
  simp [Instr.fill, Value.cells]
theorem spliceS (s : BitVec 256) : splice (setL 0) 0 (setL s) = setL s := by simp [splice, setL]

set_option maxHeartbeats 8000000 in
theorem clsAtoms_c {S : Nat → Prop} {H : Heap} {sa : Option Addr} {sc : Nat} {sets : List (BitVec 256)} (hS : ∀ k, S k → k < H.size) (h : SlD tSet S H sa sc sets) (hsl : sets.length ≤ 1048576) :
    FnOk Tryd.prog 76 #[.slice sa sets.length sc] H fun v H' => Agr (Old H) H H' ∧ ∃ a cap, v = .slice a (atomsM sets).length cap ∧ SlD tSet (Old H') H' a cap (atomsM sets) := by
  refine FnOk.of_vc Tryd.func76 rfl (Tryd.call76 _) ?_
  (conv => whnf); refine pures (span_p 0 255 (by decide) (by decide) H) fun H1 ha1 => ?_
  rw [spanS_full]
  have st1 := (St.nil H).call ha1
  (conv => whnf); refine vbuild1 sl83 (setL (BitVec.allOnes 256)) rfl rfl (by decide) (by decide) ?_
  intro b2 H2 hb2 hs2 hk2 ha2
  have st2 := st1.new (T := tSet) (n := 1) (xs := [BitVec.allOnes 256]) hb2 hs2 hk2 ha2 (Ty.reps_one rfl) rfl (by decide)
  (conv => whnf)
  refine VLoop.mk [3, 21] (fun x : Nat × List (BitVec 256) × Option Addr × Nat => match x with | (k, bl, a, c) => [.slice a bl.length c, .int .i64 (k : Int)])
    (fun x H3 => x.1 ≤ sets.length ∧ x.2.1 = blocksM (sets.take x.1) ∧ St H H3 [pS tSet 73 x.2.2.1 x.2.1.length x.2.2.2 x.2.1]) (fun x _ => sets.length - x.1) ?_ ?_
  · (conv => whnf)
    exact ⟨(0, [BitVec.allOnes 256], some ⟨b2, 0, none⟩, 1), rfl, by simp, rfl, st2⟩
  · rintro ⟨k, bl, a3, c3⟩ H3 junk ⟨hk, hbl, st3⟩
    simp only at hk hbl st3
    have hpo := part_ok (sets.take k)
    rw [← hbl] at hpo
    have hlen := hpo.len
    (conv => whnf); refine VIte.mk (fun hz => ?_) (fun hz => ?_) <;> simp only [decide_eq_true_eq, decide_eq_false_iff_not] at hz
    · obtain ⟨s, hs⟩ := get_some (l := sets) (k := k) (by omega)
      have hsucc := blocks_succ hs
      rw [← hbl] at hsucc
      (conv => whnf); refine ixr (i := k) sl83 (h.frame (st3.old.mono hS)) hs rfl ?_
      rintro b4 o4 cs4 hSb4 hcells4 rfl
      (conv => whnf); refine ldN (cs := setL s) ag73 hcells4 trivial ?_
      (conv => whnf); refine valloc (setV 0) (setL 0) rfl rfl ?_
      intro p5 H5 hp5 hs5 hb5 ha5
      have st5 := st3.box hp5 hs5 hb5 ha5
      (conv => whnf); refine stNB (cs := setL s) st5 1 rfl rfl (show 0 + 4 ≤ 4 by decide) rfl fun H6 st6 => ?_
      rw [spliceS] at st6
      (conv => whnf)
      refine VLoop.mk [6, 27] (fun x : Nat × List (BitVec 256) × Option Addr × Nat => match x with | (j, nx, a, c) => [.slice a nx.length c, .int .i64 (j : Int)])
        (fun x H7 => x.1 ≤ bl.length ∧ x.2.1 = (bl.take x.1).flatMap (cutB s) ∧ St H H7 [pS tSet 73 a3 bl.length c3 bl, pB 73 p5 (setL s), pS tSet 73 x.2.2.1 x.2.1.length x.2.2.2 x.2.1]) (fun x _ => bl.length - x.1) ?_ ?_
      · (conv => whnf)
        exact ⟨(0, [], none, 0), rfl, by simp, rfl, StB.nils st6 tSet 73⟩
      · rintro ⟨j, nx, a7, c7⟩ H7 junk7 ⟨hj, hnx, st7⟩
        simp only at hj hnx st7
        (conv => whnf); refine VIte.mk (fun hz2 => ?_) (fun hz2 => ?_) <;> simp only [decide_eq_true_eq, decide_eq_false_iff_not] at hz2
        · obtain ⟨b, hb⟩ := get_some (l := bl) (k := j) (by omega)
          have hnl := partB_len s (bl.take j)
          rw [← hnx, List.length_take] at hnl
          (conv => whnf); refine ixO (j := j) sl83 st7 0 rfl hb rfl fun b8 o8 cs8 hO8 hc8 hr8 => ?_
          obtain rfl := hr8
          (conv => whnf); refine ldN (cs := setL b) ag73 hc8 trivial ?_
          (conv => whnf); refine valloc (setV 0) (setL 0) rfl rfl ?_
          intro p9 H9 hp9 hs9 hb9 ha9
          have st9 := st7.box hp9 hs9 hb9 ha9
          (conv => whnf); refine stNB (cs := setL b) st9 3 rfl rfl (show 0 + 4 ≤ 4 by decide) rfl fun H10 st10 => ?_
          rw [spliceS] at st10
          (conv => whnf); refine VDraw.held (Old H10) 99 (sq [0,1,3,4,7] (.f 2 (.f 5 (sq [6] .e)))) rfl (by kernel_rfl) ?_
          have q5 := st10.blk 1 rfl
          have q9 := st10.blk 3 rfl
          (conv => whnf); refine ldN (cs := setL b) ag73 (q9.cells fun j v hv => by rw [Nat.zero_add]; exact hv) q9.lt ?_
          (conv => whnf); refine ldN (cs := setL s) ag73 (q5.cells fun j v hv => by rw [Nat.zero_add]; exact hv) q5.lt ?_
          (conv => whnf); refine ldN (cs := setL b) ag73 (q9.cells fun j v hv => by rw [Nat.zero_add]; exact hv) q9.lt ?_
          (conv => whnf); refine ldN (cs := setL s) ag73 (q5.cells fun j v hv => by rw [Nat.zero_add]; exact hv) q5.lt ?_
          (conv => whnf); refine pures (meet_c b s H10) fun H11 ha11 => ?_
          have st11 := st10.call ha11
          refine ⟨ha11, ?_⟩
          (conv => whnf); refine pures (minus_c b s H11) fun H12 ha12 => ?_
          have st12 := st11.call ha12
          refine ⟨ha11.trans (ha12.mono fun k hk => old_lt ha11 hk), ?_⟩
          (conv => whnf); refine vbuildA ar195 _ zero2 (setL (b &&& s) ++ setL (b &&& ~~~s)) (fill2 _ _) ?_
          have hcut : cutB s b = [b &&& s, b &&& ~~~s].filter fun x => !decide (x = 0) := rfl
          generalize b &&& s = x0 at *
          generalize b &&& ~~~s = x1 at *
          (conv => whnf)
          refine VLoop.mk [6, 38] (fun x : Nat × List (BitVec 256) × Option Addr × Nat => match x with | (i, nx, a, c) => [.slice a nx.length c, .int .i64 (i : Int)])
            (fun x H13 => x.1 ≤ 2 ∧ x.2.1 = nx ++ ([x0, x1].take x.1).filter (fun x => !decide (x = 0)) ∧ x.2.1.length ≤ nx.length + x.1 ∧ St H H13 [pS tSet 73 a3 bl.length c3 bl, pB 73 p5 (setL s), pS tSet 73 x.2.2.1 x.2.1.length x.2.2.2 x.2.1, pB 73 p9 (setL b)]) (fun x _ => 2 - x.1) ?_ ?_
          · (conv => whnf)
            exact ⟨(0, nx, a7, c7), rfl, by simp, by simp, by simp, st12⟩
          · rintro ⟨i, ny, a13, c13⟩ H13 junk13 ⟨hi, hny, hnyl, st13⟩
            simp only at hi hny hnyl st13
            (conv => whnf); refine VIte.mk (fun hz3 => ?_) (fun hz3 => ?_) <;> simp only [decide_eq_true_eq, decide_eq_false_iff_not] at hz3
            · have hi2 : i = 0 ∨ i = 1 := by omega
              obtain ⟨x, hx⟩ : ∃ x, [x0, x1][i]? = some x := get_some (by simp; omega)
              have e : Value.agg (((setL x0 ++ setL x1).toArray).extract (((i : Nat) : Int).toNat * 4) (((i : Nat) : Int).toNat * 4 + 4)) = setV x := by
                rcases hi2 with rfl | rfl <;> cases hx <;> rfl
              have hnext : nx ++ ([x0, x1].take (i + 1)).filter (fun x => !decide (x = 0)) = ny ++ [x].filter (fun x => !decide (x = 0)) := by
                rw [hny, take_succ_snoc hx, List.filter_append, List.append_assoc]
              (conv => whnf); refine VSeq.run ?_
              (conv => whnf); refine ixvN (i := (i : Int)) ar195 ag73 (by omega) (show (i : Int) < ((2 : Nat) : Int) by omega) ?_
              rw [e]
              (conv => whnf); refine valloc (setV 0) (setL 0) rfl rfl ?_
              intro p14 H14 hp14 hs14 hb14 ha14
              have st14 := st13.box hp14 hs14 hb14 ha14
              (conv => whnf); refine stNB (cs := setL x) st14 4 rfl rfl (show 0 + 4 ≤ 4 by decide) rfl fun H15 st15 => ?_
              rw [spliceS] at st15
              have q15 := st15.blk 4 rfl
              (conv => whnf); refine ldN (cs := setL x) ag73 (q15.cells fun j v hv => by rw [Nat.zero_add]; exact hv) trivial ?_
              (conv => whnf); refine vbuildA ar73 (setV 0) rfl (setL 0) rfl ?_
              (conv => whnf); refine set_neq x 0 ?_
              by_cases hx0 : x = 0
              · have d : (!decide (x = 0)) = false := by rw [decide_eq_true hx0]; rfl
                rw [d]
                have hf : [x].filter (fun x => !decide (x = 0)) = [] := List.filter_cons_of_neg (p := fun x => !decide (x = 0)) (by rw [d]; decide)
                rw [hf, List.append_nil] at hnext
                (conv => whnf); rw [w64 (x := (i : Int) + 1) (by omega) (by omega)]
                refine ⟨rfl, (i + 1, ny, a13, c13), by simp, ⟨by simp only; omega, hnext.symm, by simp only; omega, ?_⟩, by simp only; omega⟩
                exact st15.pick [0, 1, 2, 3] (by decide)
              · have d : (!decide (x = 0)) = true := by rw [decide_eq_false hx0]; rfl
                rw [d]
                have hf : [x].filter (fun x => !decide (x = 0)) = [x] := List.filter_cons_of_pos (p := fun x => !decide (x = 0)) d
                rw [hf] at hnext
                (conv => whnf); refine ldN (cs := setL x) ag73 (q15.cells fun j v hv => by rw [Nat.zero_add]; exact hv) trivial ?_
                (conv => whnf); refine vbuild1 sl83 (setL x) rfl rfl (by decide) (by decide) ?_
                intro q16 H16 hq16 hs16 hb16 ha16
                have st16 := st15.skip hq16 ha16
                (conv => whnf); refine appO (ys := [x]) (ds := setL x) st16 2 sl83 rfl (hb16.cells fun j v hv => by rw [Nat.zero_add]; exact hv) (Ty.reps_one rfl) rfl (by simp [setL, Value.oneCell']) (by simp only [List.length_singleton]; omega) (by decide) fun a' c' H17 st17 _ => ?_
                (conv => whnf); rw [w64 (x := (i : Int) + 1) (by omega) (by omega)]
                refine ⟨rfl, (i + 1, ny ++ [x], a', c'), by simp, ⟨by simp only; omega, hnext.symm, by simp only [List.length_append, List.length_singleton]; omega, ?_⟩, by simp only; omega⟩
                simp only [List.length_append]
                exact st17.pick [0, 1, 2, 3] (by decide)
            · obtain rfl : i = 2 := by omega
              have hnb : ny = (bl.take (j + 1)).flatMap (cutB s) := by
                rw [take_flat (cutB s) hb, ← hnx, hny, hcut]; rfl
              (conv => whnf); rw [w64 (x := (j : Int) + 1) (by omega) (by omega)]
              refine ⟨rfl, (j + 1, ny, a13, c13), by simp, ⟨by simp only; omega, hnb, ?_⟩, by simp only; omega⟩
              exact st13.pick [0, 1, 2] (by decide)
        · obtain rfl : j = bl.length := by omega
          rw [List.take_length] at hnx
          (conv => whnf); rw [w64 (x := (k : Int) + 1) (by omega) (by omega)]
          refine ⟨rfl, (k + 1, nx, a7, c7), by simp, ⟨by simp only; omega, by simp only; rw [hsucc, hnx], ?_⟩, by simp only; omega⟩
          exact st7.pick [2] (by decide)
    · obtain rfl : k = sets.length := by omega
      rw [List.take_length] at hbl hpo
      have hone : ∀ x : BitVec 256, ((nextM x 0).1 : Int) = ((nextM x 0).1 : Int) := fun _ => rfl
      (conv => whnf); refine vmake sl83 (by omega) (by omega) (by omega) (by omega) ?_
      intro p5 H5 hp5 hs5 hb5 ha5
      rw [Int.toNat_natCast] at hb5
      rw [Int.toNat_natCast, Int.toNat_zero]
      have st5 := st3.newCap (T := tSet) (cap := bl.length) hp5 hs5 hb5 ha5 (by simp [tSet]) (by unfold maxLen; omega)
      have hrl := reps_len sets
      (conv => whnf)
      refine VLoop.mk [11, 55] (fun x : Nat × List (BitVec 256) × Option Addr × Nat => match x with | (b, out, a, c) => [.slice a out.length c, .int .i64 (b : Int)])
        (fun x H6 => x.1 ≤ 256 ∧ x.2.1 = (List.range x.1).flatMap (atomsAt bl) ∧ St H H6 [pS tSet 73 a3 bl.length c3 bl, pS tSet 73 x.2.2.1 x.2.1.length x.2.2.2 x.2.1]) (fun x _ => 256 - x.1) ?_ ?_
      · (conv => whnf)
        exact ⟨(0, [], some ⟨p5, 0, none⟩, bl.length), rfl, by simp, rfl, st5⟩
      · rintro ⟨b, out, a6, c6⟩ H6 junk6 ⟨hb, hout, st6⟩
        simp only at hb hout st6
        have hol : out.length ≤ b * 256 := by
          rw [hout]
          clear hout
          induction b with
          | zero => simp
          | succ b ih =>
            have h1 := ih (by omega)
            have h2 : (atomsAt bl b).length ≤ bl.length := List.length_filter_le _ _
            rw [List.range_succ, List.flatMap_append, List.length_append]
            simp only [List.flatMap_cons, List.flatMap_nil, List.append_nil]
            omega
        (conv => whnf); refine VIte.mk (fun hz2 => ?_) (fun hz2 => ?_) <;> simp only [decide_eq_true_eq, decide_eq_false_iff_not] at hz2
        · have hnext : (List.range (b + 1)).flatMap (atomsAt bl) = out ++ atomsAt bl b := by
            rw [hout, List.range_succ, List.flatMap_append]; simp
          (conv => whnf)
          refine VLoop.mk [11, 60] (fun x : Nat × List (BitVec 256) × Option Addr × Nat => match x with | (j, o, a, c) => [.slice a o.length c, .int .i64 (j : Int)])
            (fun x H7 => x.1 ≤ bl.length ∧ x.2.1 = out ++ (bl.take x.1).filter (fun s => (nextM s 0).1 == b) ∧ x.2.1.length ≤ out.length + x.1 ∧ St H H7 [pS tSet 73 a3 bl.length c3 bl, pS tSet 73 x.2.2.1 x.2.1.length x.2.2.2 x.2.1]) (fun x _ => bl.length - x.1) ?_ ?_
          · (conv => whnf)
            exact ⟨(0, out, a6, c6), rfl, by simp, by simp, by simp, st6⟩
          · rintro ⟨j, o, a7, c7⟩ H7 junk7 ⟨hj, ho, hoL, st7⟩
            simp only at hj ho hoL st7
            (conv => whnf); refine VIte.mk (fun hz3 => ?_) (fun hz3 => ?_) <;> simp only [decide_eq_true_eq, decide_eq_false_iff_not] at hz3
            · obtain ⟨x, hx⟩ := get_some (l := bl) (k := j) (by omega)
              have hnx : out ++ (bl.take (j + 1)).filter (fun s => (nextM s 0).1 == b) = o ++ [x].filter (fun s => (nextM s 0).1 == b) := by
                rw [ho, take_succ_snoc hx, List.filter_append, List.append_assoc]
              (conv => whnf); refine VSeq.run ?_
              (conv => whnf); refine ixO (j := j) sl83 st7 0 rfl hx rfl fun b8 o8 cs8 hO8 hc8 hr8 => ?_
              obtain rfl := hr8
              (conv => whnf); refine ldN (cs := setL x) ag73 hc8 trivial ?_
              (conv => whnf); refine valloc (setV 0) (setL 0) rfl rfl ?_
              intro p9 H9 hp9 hs9 hb9 ha9
              have st9 := st7.box hp9 hs9 hb9 ha9
              (conv => whnf); refine stNB (cs := setL x) st9 2 rfl rfl (show 0 + 4 ≤ 4 by decide) rfl fun H10 st10 => ?_
              rw [spliceS] at st10
              (conv => whnf); refine ldN (cs := setL x) ag73 ((st10.blk 2 rfl).cells fun j v hv => by rw [Nat.zero_add]; exact hv) trivial ?_
              (conv => whnf); refine pures (next_p x 0 (by decide) H10) fun H11 ha11 => ?_
              have st11 := st10.call ha11
              have q11 := st11.blk 2 rfl
              have hn8 := nextM_lt x 0
              (conv => whnf); rw [w64 (x := ((nextM x 0).1 : Int)) (by omega) (by omega)]
              cases hd : ((nextM x 0).1 == b) with
              | false =>
                have d : (((nextM x 0).1 : Int) == (b : Int)) = false := by
                  rw [beq_eq_false_iff_ne] at hd ⊢; omega
                have hf : [x].filter (fun s => (nextM s 0).1 == b) = [] := List.filter_cons_of_neg (p := fun s => (nextM s 0).1 == b) (by rw [hd]; decide)
                rw [hf, List.append_nil] at hnx
                (conv => whnf); rw [d]
                (conv => whnf); rw [w64 (x := (j : Int) + 1) (by omega) (by omega)]
                refine ⟨rfl, (j + 1, o, a7, c7), by simp, ⟨by simp only; omega, hnx.symm, by simp only; omega, ?_⟩, by simp only; omega⟩
                exact st11.pick [0, 1] (by decide)
              | true =>
                have d : (((nextM x 0).1 : Int) == (b : Int)) = true := by
                  rw [beq_iff_eq] at hd ⊢; omega
                have hf : [x].filter (fun s => (nextM s 0).1 == b) = [x] := List.filter_cons_of_pos (p := fun s => (nextM s 0).1 == b) hd
                rw [hf] at hnx
                (conv => whnf); rw [d]
                (conv => whnf); refine ldN (cs := setL x) ag73 (q11.cells fun j v hv => by rw [Nat.zero_add]; exact hv) trivial ?_
                (conv => whnf); refine vbuild1 sl83 (setL x) rfl rfl (by decide) (by decide) ?_
                intro q12 H12 hq12 hs12 hb12 ha12
                have st12 := st11.skip hq12 ha12
                (conv => whnf); refine appO (ys := [x]) (ds := setL x) st12 1 sl83 rfl (hb12.cells fun j v hv => by rw [Nat.zero_add]; exact hv) (Ty.reps_one rfl) rfl (by simp [setL, Value.oneCell']) (by simp only [List.length_singleton]; omega) (by decide) fun a' c' H13 st13 _ => ?_
                (conv => whnf); rw [w64 (x := (j : Int) + 1) (by omega) (by omega)]
                refine ⟨rfl, (j + 1, o ++ [x], a', c'), by simp, ⟨by simp only; omega, hnx.symm, by simp only [List.length_append, List.length_singleton]; omega, ?_⟩, by simp only; omega⟩
                simp only [List.length_append]
                exact st13.pick [0, 1] (by decide)
            · obtain rfl : j = bl.length := by omega
              rw [List.take_length] at ho
              (conv => whnf); rw [w64 (x := (b : Int) + 1) (by omega) (by omega)]
              exact ⟨rfl, (b + 1, o, a7, c7), by simp, ⟨by simp only; omega, by simp only; rw [hnext, ho]; rfl, st7⟩, by simp only; omega⟩
        · obtain rfl : b = 256 := by omega
          have hfin : out = atomsM sets := by rw [hout, hbl]; rfl
          have hv := st6.view 1 rfl
          subst hfin
          (conv => whnf)
          exact ⟨st6.old, _, _, rfl, hv⟩
end Go.Proofs.YthomdogheamfpaaDoor
/- Copies of a table's parts: the laws' cells, the document's Rows. -/
set_option linter.unusedVariables false
set_option linter.unusedSimpArgs false
set_option maxRecDepth 100000
namespace Go.Proofs.YthomdogheamfpaaDoor
open Go.VC
attribute [local irreducible] mRun

theorem zero_set (S : Nat → Prop) (H : Heap) : tSet.rep S H ((Tryd.t73.zero.getD undef).cells.toList) 0#256 := by
  show _ = setL 0#256
  kernel_rfl
theorem rows_c (na : Option Addr) (nc : Nat) (next : List (List Int)) (S : Nat → Prop) (H : Heap) (hS : ∀ k, S k → k < H.size) (hc : SlD tRows S H na nc next) (hn : next.length ≤ 4194304) (hr : ∀ row ∈ next, row.length ≤ 4194304) :
    FnOk Tryd.prog 45 #[.slice na next.length nc] H fun v H' => Agr (Old H) H H' ∧ H.size ≤ H'.size ∧ ∃ b vs, v = .slice (some ⟨b, 0, none⟩) next.length next.length ∧ H.size ≤ b ∧
      Tab tI (fun _ => False) H' (b + 1) 3 b 33 vs next := by
  refine FnOk.of_vc Tryd.func45 rfl (Tryd.call45 _) ?_
  (conv => whnf); refine vmake1 sl23 rfl (by omega) (by omega) (by omega) (by omega) ?_
  intro nb H2 hnb hs2 hb2 ha2
  rw [Int.toNat_natCast] at hb2
  (conv => whnf)
  refine VLoop.mk [4] (fun k : Nat => [.int .i64 k]) (fun k H3 => k ≤ next.length ∧ Agr (fun j => j < H2.size ∧ j ≠ nb) H2 H3 ∧ H2.size ≤ H3.size ∧
    ∃ vs, Tab tI (fun _ => False) H3 (nb + 1) 3 nb 33 vs (next.take k ++ List.replicate (next.length - k) []) ∧ ∀ j, k ≤ j → j < next.length → vs[j]? = some (.slice none 0 0)) (fun k _ => next.length - k) ?_ ?_
  · (conv => whnf)
    refine ⟨0, rfl, by omega, Agr.refl _ _, by omega, List.replicate next.length (.slice none 0 0), ?_, fun j _ hj => by rw [List.getElem?_replicate, if_pos hj]⟩
    rw [fill_beg]
    exact Tab.new hb2 (by omega)
  · rintro k H3 junk ⟨hk, ha3, hs3, vs, htab, hvs⟩
    (conv => whnf); refine VIte.mk (fun h => ?_) (fun h => ?_) <;> simp only [decide_eq_true_eq, decide_eq_false_iff_not] at h
    · obtain ⟨row, hrow⟩ := get_some (l := next) (k := k) (by omega)
      have hrl := hr row (List.mem_of_getElem? hrow)
      have hv := hvs k (Nat.le_refl _) (by omega)
      have hA : Agr (Old H) H H3 := (ha2.mono fun j hj => by unfold Old at hj; omega).trans (ha3.mono fun j hj => by unfold Old at hj; omega)
      (conv => whnf); refine vbuild0 sl33 ?_
      intro q4 H4 hq4 hs4 hb4 ha4
      have hA4 := hA.trans (ha4.mono fun j hj => by unfold Old at hj; omega)
      (conv => whnf); refine ixr sl23 (hc.frame (hA4.mono hS)) hrow rfl ?_
      rintro b5 o5 cs5 hSb5 hcells5 ⟨ra, rc, rfl, hrow5⟩
      (conv => whnf); refine ld1 ct33 hcells5.one trivial ?_
      have hnb4 : nb < H4.size := by omega
      (conv => whnf); refine vappendD (T := tI) (S := fun j => j < H.size) (lo := nb + 1) (xs := []) sl33 (tInt_ones _) (SlO.empty (by omega) hb4) (by omega) (fun j hj => ⟨by omega, ?_⟩) (hrow5.mono hS) (by simp only [maxLen, List.length_nil]; omega) (by simp only [List.length_nil]; omega) ?_
      · rintro ⟨o, n, c, e⟩; cases e; omega
      intro v6 H6 hown6 ha6 hs6 hfresh6
      rw [List.nil_append] at hown6
      have htab4 := htab.agr ha4 (by omega) (fun b _ hb => by omega) (fun _ h => h.elim)
      have hq : ∀ j, slB (.slice (some ⟨q4, 0, none⟩) 0 0) j → j = q4 := by rintro j ⟨o, n, c, e⟩; cases e; rfl
      have hvl : k < vs.length := (List.getElem?_eq_some_iff.1 hv).1
      (conv => whnf); refine ix sl23 (by omega) (by omega) ?_
      (conv => whnf); refine st1 ct33 (htab4.blk.agr ha6 ⟨by omega, fun hb => by have := hq _ hb; omega⟩) (by simpa using hvl) hown6.one ?_
      intro H7 hb7 ha7 hs7
      rw [show 0 + (k : Int).toNat * 1 = k by omega] at hb7
      have h46 : Agr (fun j => j < H4.size ∧ j ≠ q4) H4 H6 := ha6.mono fun j hj => ⟨hj.1, fun hb => hj.2 (hq _ hb)⟩
      have h36 : Agr (fun j => j < H3.size ∧ ¬ slB (.slice none 0 0) j) H3 H6 := (ha4.mono fun j hj => by omega).trans (h46.mono fun j hj => by omega)
      have htab7 := htab.push hv (hown6.free (tInt_free _)) h36 (fun j hj => by
        rcases hfresh6 j hj with h | h
        · have := hq j h; omega
        · omega) hb7 ha7 (fun j hj => hj.elim)
      rw [fill_set hrow] at htab7
      (conv => whnf); rw [w64 (x := (k : Int) + 1) (by omega) (by omega)]
      refine ⟨rfl, k + 1, by simp, ⟨by omega, ?_, by omega, _, htab7, fun j hj1 hj2 => ?_⟩, by omega⟩
      · exact ((ha3.trans (ha4.mono fun j hj => by omega)).trans (h46.mono fun j hj => by omega)).trans (ha7.mono fun j hj => hj.2)
      · rw [List.getElem?_set_ne (by omega)]
        exact hvs j (by omega) hj2
    · obtain rfl : k = next.length := by omega
      rw [fill_end] at htab
      (conv => whnf)
      exact ⟨(ha2.mono fun j hj => by unfold Old at hj; omega).trans (ha3.mono fun j hj => by unfold Old at hj; omega), by omega, nb, vs, rfl, by omega, htab⟩

end Go.Proofs.YthomdogheamfpaaDoor
/- Sets of bytes as 256 bools: From and Words. -/
set_option linter.unusedVariables false
set_option linter.unusedSimpArgs false
set_option maxRecDepth 100000
namespace Go.Proofs.YthomdogheamfpaaDoor
open Go.VC
def bitsTo (x : BitVec 256) (k : Nat) : List Value := (List.range 256).map fun b => .bool (decide (b < k) && x.getLsbD b)
def bitsL (x : BitVec 256) : List Value := bitsTo x 256
theorem bitsTo_len (x : BitVec 256) (k : Nat) : (bitsTo x k).length = 256 := by simp [bitsTo]
theorem bitsTo_get (x : BitVec 256) (k : Nat) {b : Nat} (h : b < 256) : (bitsTo x k)[b]? = some (.bool (decide (b < k) && x.getLsbD b)) := by
  unfold bitsTo
  rw [List.getElem?_map, List.getElem?_range h]; rfl
theorem bitsL_get (x : BitVec 256) {b : Nat} (h : b < 256) : (bitsL x)[b]? = some (.bool (x.getLsbD b)) := by
  unfold bitsL
  rw [bitsTo_get x 256 h]; simp [h]
theorem bitsTo_set (x : BitVec 256) {k : Nat} (h : k < 256) : (bitsTo x k).set k (.bool (x.getLsbD k)) = bitsTo x (k + 1) := by
  apply List.ext_getElem?
  intro i
  by_cases hi : i < 256
  · rw [bitsTo_get _ _ hi, List.getElem?_set, bitsTo_len]
    by_cases hik : k = i
    · subst hik; simp [h]
    · rw [if_neg hik, bitsTo_get _ _ hi]
      have : decide (i < k) = decide (i < k + 1) := decide_eq_decide.2 (by omega)
      rw [this]
  · rw [List.getElem?_eq_none (by simp [bitsTo_len]; omega), List.getElem?_eq_none (by simp [bitsTo_len]; omega)]
theorem bitsTo_zero (x : BitVec 256) : bitsTo x 0 = List.replicate 256 (.bool false) := by
  unfold bitsTo
  simp [List.map_const']
def tB : Ty (BitVec 256) where
  size := 256
  rep _ _ cs s := cs = bitsL s
  len h := by rw [h]; exact bitsTo_len _ _
  frame h _ := h
  mono h _ := h
theorem bits_ones (x : BitVec 256) (k : Nat) : (bitsTo x k).all (·.oneCell') = true := by
  simp [bitsTo, Value.oneCell']
theorem tB_ones : tB.Ones := by
  rintro S H cs x rfl u hu
  exact List.all_eq_true.1 (bits_ones x 256) u hu
theorem word_bit (x : BitVec 256) (b : Nat) (hb : b < 256) : ((((wd x (b / 64) / 2 ^ (b % 64) % 2 : Nat) : Int) == (1 : Int))) = x.getLsbD b := by
  have h1 := wd_bit x (b / 64) (b % 64) (Nat.mod_lt _ (by decide))
  rw [show 64 * (b / 64) + b % 64 = b by omega] at h1
  rw [← h1, Nat.testBit_eq_decide_div_mod_eq]
  have := Nat.mod_two_eq_zero_or_one (wd x (b / 64) / 2 ^ (b % 64))
  rcases this with h | h <;> simp [h]

theorem from_p (x : BitVec 256) (H : Heap) : Pure Tryd.prog 81 #[.agg (setL x).toArray] H (.agg (bitsL x).toArray) := by
  refine FnOk.of_vc Tryd.func81 rfl (Tryd.call81 _) ?_
  (conv => whnf); refine vbox (setL x) rfl ?_
  intro p1 H1 hp1 hs1 hb1 ha1
  (conv => whnf); refine valloc _ (List.replicate 256 (.bool false)) rfl rfl ?_
  intro p2 H2 hp2 hs2 hb2 ha2
  (conv => whnf); refine valloc _ (List.replicate 256 (.bool false)) rfl rfl ?_
  intro p3 H3 hp3 hs3 hb3 ha3
  (conv => whnf)
  refine VLoop.mk [4] (fun k : Nat => [.int .i64 k]) (fun k H4 => k ≤ 256 ∧ Agr (fun j => j < p3) H3 H4 ∧ H4.size = H3.size ∧ Blk H4 p3 112 (bitsTo x k)) (fun k _ => 256 - k) ?_ ?_
  · (conv => whnf)
    exact ⟨0, rfl, by omega, Agr.refl _ _, rfl, by rw [bitsTo_zero]; exact hb3⟩
  · rintro k H4 junk ⟨hk, ha4, hs4, hb4⟩
    have hb1' := ((hb1.agr ha2 (show p1 < p2 by omega)).agr ha3 (show p1 < p3 by omega)).agr ha4 (show p1 < p3 by omega)
    (conv => whnf); refine VIte.mk (fun h => ?_) (fun h => ?_) <;> simp only [decide_eq_true_eq, decide_eq_false_iff_not] at h
    · have hk6 : k / 64 < 4 := by omega
      (conv => whnf); refine vquo (b := 64) (by decide) (inI64 (by omega)) ?_
      (conv => whnf); refine ixa ar70 (by omega) (by omega) ?_
      (conv => whnf); refine ld1 (v := .int .u64 (wd x (k / 64))) ct69 ?_ trivial ?_
      · rw [hb1'.cell, show 0 + (((k / 64 : Nat) : Int)).toNat * 1 = k / 64 by omega]
        have := setL_get x k (by omega)
        rwa [show k / 2 ^ 6 = k / 64 by rfl] at this
      (conv => whnf); refine vrem (b := 64) (by decide) ?_
      (conv => whnf); rw [wrap_in (k := .u64) (inU64 (x := k % 64) (by omega))]
      (conv => whnf); refine vshr (k := .u64) (b := k % 64) (by show k % 64 ≤ 64; omega) ?_
      (conv => whnf); refine vrem (k := .u64) (b := 2) (by decide) ?_
      (conv => whnf); refine ixa ar112 (by omega) (by omega) ?_
      rw [word_bit x k (by omega)]
      (conv => whnf); refine st1 ct4 hb4 (by rw [bitsTo_len]; omega) rfl ?_
      intro H5 hb5 ha5 hs5
      rw [show 0 + ((k : Nat) : Int).toNat * 1 = k by omega, bitsTo_set x (by omega)] at hb5
      (conv => whnf); rw [w64 (x := (k : Int) + 1) (by omega) (by omega)]
      exact ⟨rfl, k + 1, by simp, ⟨by omega, ha4.trans (ha5.mono fun j hj => by omega), by omega, hb5⟩, by omega⟩
    · obtain rfl : k = 256 := by omega
      (conv => whnf); refine ldN (cs := bitsL x) (by rw [show (bitsL x).length = 256 from bitsTo_len _ _]; exact ag112) (hb4.cells fun j v hv => by rw [Nat.zero_add]; exact hv) trivial ?_
      (conv => whnf); refine VC.stN (cs := bitsL x) (by rw [show (bitsL x).length = 256 from bitsTo_len _ _]; rfl) ((hb2.agr ha3 (show p2 < p3 by omega)).agr ha4 (show p2 < p3 by omega)) (by rw [show (bitsL x).length = 256 from bitsTo_len _ _]; simp) (bits_ones x 256) ?_
      intro H6 hb6 ha6 hs6
      have hsp : splice (List.replicate 256 (.bool false)) 0 (bitsL x) = bitsL x := by
        unfold splice
        rw [show (bitsL x).length = 256 from bitsTo_len _ _]
        simp
      rw [hsp] at hb6
      (conv => whnf); refine ldN (cs := bitsL x) (by rw [show (bitsL x).length = 256 from bitsTo_len _ _]; exact ag112) (hb6.cells fun j v hv => by rw [Nat.zero_add]; exact hv) trivial ?_
      exact ⟨rfl, (((ha1.mono fun j hj => by omega).trans (ha2.mono fun j hj => by omega)).trans (ha3.mono fun j hj => by omega)).trans ((ha4.mono fun j hj => by omega).trans (ha6.mono fun j hj => by omega))⟩

/-! ### sets as functions -/
def funL (f : Nat → Bool) : List Value := (List.range 256).map fun b => .bool (f b)
theorem funL_len (f : Nat → Bool) : (funL f).length = 256 := by simp [funL]
theorem funL_get (f : Nat → Bool) {b : Nat} (h : b < 256) : (funL f)[b]? = some (.bool (f b)) := by
  unfold funL
  rw [List.getElem?_map, List.getElem?_range h]; rfl
theorem funL_set (f : Nat → Bool) {k : Nat} (h : k < 256) : (funL f).set k (.bool true) = funL fun b => decide (b = k) || f b := by
  apply List.ext_getElem?
  intro i
  by_cases hi : i < 256
  · rw [funL_get _ hi, List.getElem?_set, funL_len]
    by_cases hik : k = i
    · subst hik; simp [h]
    · rw [if_neg hik, funL_get _ hi, decide_eq_false (Ne.symm hik)]; rfl
  · rw [List.getElem?_eq_none (by simp [funL_len]; omega), List.getElem?_eq_none (by simp [funL_len]; omega)]
theorem funL_zero : funL (fun _ => false) = List.replicate 256 (.bool false) := by
  unfold funL
  rw [List.map_const', List.length_range]
def tF : Ty (Nat → Bool) where
  size := 256
  rep _ _ cs f := cs = funL f
  len h := by rw [h]; exact funL_len _
  frame h _ := h
  mono h _ := h
theorem splice_all {l c : List Value} (h : c.length = l.length) : splice l 0 c = c := by
  unfold splice
  rw [List.take_zero, List.nil_append, Nat.zero_add, h, List.drop_length, List.append_nil]

/-! ### Words -/
end Go.Proofs.YthomdogheamfpaaDoor
/- The document's sets, tables: From, Sets, Sound, Whole. -/
set_option linter.unusedVariables false
set_option linter.unusedSimpArgs false
set_option maxRecDepth 100000
namespace Go.Proofs.YthomdogheamfpaaDoor
open Go.VC
attribute [local irreducible] mRun

end Go.Proofs.YthomdogheamfpaaDoor

/- The document's Sets, Sound and Whole. -/
set_option linter.unusedVariables false
set_option linter.unusedSimpArgs false
set_option maxRecDepth 100000
namespace Go.Proofs.YthomdogheamfpaaDoor
open Go.VC
attribute [local irreducible] mRun

/-! ### the plain law -/
def cntTo (cells : List (BitVec 256)) (c b : Nat) : Nat := ((cells.take c).filter fun x => x.getLsbD b).length
def cnt (cells : List (BitVec 256)) (b : Nat) : Nat := (cells.filter fun x => x.getLsbD b).length
def ind (x : BitVec 256) (b : Nat) : Nat := if x.getLsbD b then 1 else 0
theorem cnt_cons (c : BitVec 256) (cs : List (BitVec 256)) (b : Nat) : cnt (c :: cs) b = ind c b + cnt cs b := by
  unfold cnt ind
  rw [List.filter_cons]
  split <;> simp <;> omega
theorem and_zero {a c : BitVec 256} : a &&& c = 0#256 ↔ ∀ b, b < 256 → ind a b + ind c b ≤ 1 := by
  constructor
  · intro h b hb
    have h1 : (a &&& c).getLsbD b = false := by rw [h]; simp
    rw [BitVec.getLsbD_and] at h1
    unfold ind
    cases ha : a.getLsbD b <;> cases hc : c.getLsbD b <;> simp_all
  · intro h
    apply BitVec.eq_of_getLsbD_eq
    intro b hb
    have h1 := h b hb
    rw [BitVec.getLsbD_and]
    unfold ind at h1
    cases ha : a.getLsbD b <;> cases hc : c.getLsbD b <;> simp_all
theorem ind_or {a c : BitVec 256} (h : a &&& c = 0#256) {b : Nat} (hb : b < 256) : ind (a ||| c) b = ind a b + ind c b := by
  have h1 := and_zero.1 h b hb
  unfold ind at h1 ⊢
  rw [BitVec.getLsbD_or]
  cases ha : a.getLsbD b <;> cases hc : c.getLsbD b <;> simp_all
theorem disjGo_some : ∀ (cs : List (BitVec 256)) (all : BitVec 256), (∃ x, disjGo all cs = some x) ↔ ∀ b, b < 256 → ind all b + cnt cs b ≤ 1
  | [], all => by
    simp only [disjGo, cnt, List.filter_nil, List.length_nil]
    refine ⟨fun _ b _ => ?_, fun _ => ⟨_, rfl⟩⟩
    unfold ind
    split <;> omega
  | c :: cs, all => by
    simp only [disjGo]
    split
    · rename_i h
      rw [disjGo_some cs (all ||| c)]
      constructor
      · intro h1 b hb
        have := h1 b hb
        rw [ind_or h hb] at this
        rw [cnt_cons]; omega
      · intro h1 b hb
        have := h1 b hb
        rw [cnt_cons] at this
        rw [ind_or h hb]; omega
    · rename_i h
      refine ⟨fun ⟨x, hx⟩ => (by cases hx), fun h1 => absurd (and_zero.2 fun b hb => ?_) h⟩
      have := h1 b hb
      rw [cnt_cons] at this
      omega
theorem cnt_pos {cs : List (BitVec 256)} {b : Nat} : (cs.any fun c => c.getLsbD b) = true ↔ 1 ≤ cnt cs b := by
  unfold cnt
  rw [List.any_eq_true]
  constructor
  · rintro ⟨x, hx, hb⟩
    exact List.length_pos_of_mem (List.mem_filter.2 ⟨hx, hb⟩)
  · intro h
    obtain ⟨x, hx⟩ := List.exists_mem_of_length_pos h
    exact ⟨x, (List.mem_filter.1 hx).1, (List.mem_filter.1 hx).2⟩
theorem soundB_iff {cells : List (BitVec 256)} {next : List (List Int)} {fl : Nat} : soundB cells next fl = true ↔ (1 ≤ next.length ∧ next.length ≤ 65536 ∧ next.length = fl) ∧ (∀ b, b < 256 → cnt cells b = 1) ∧ ∀ row ∈ next, rowOk next.length cells.length row = true := by
  have hz : ∀ b, ind 0#256 b = 0 := fun b => by simp [ind]
  constructor
  · intro h
    have hr := soundB_rows h
    unfold soundB at h
    split at h
    · cases h
    · rename_i all hall
      simp only [Bool.and_eq_true, beq_iff_eq, decide_eq_true_eq, List.all_eq_true] at h
      refine ⟨⟨hr.1, hr.2.1, hr.2.2.1⟩, fun b hb => ?_, h.2⟩
      have h1 := (disjGo_some cells 0#256).1 ⟨all, hall⟩ b hb
      rw [hz] at h1
      have h2 := disjGo_bits hall b
      rw [h.1.1.1.1, BitVec.getLsbD_allOnes] at h2
      simp only [hb, decide_true, BitVec.getLsbD_zero, Bool.false_or] at h2
      have h3 := cnt_pos.1 h2.symm
      omega
  · rintro ⟨⟨h1, h2, h3⟩, h4, h5⟩
    obtain ⟨all, hall⟩ := (disjGo_some cells 0#256).2 fun b hb => by rw [hz, h4 b hb]; omega
    unfold soundB
    rw [hall]
    simp only [Bool.and_eq_true, beq_iff_eq, decide_eq_true_eq, List.all_eq_true]
    refine ⟨⟨⟨⟨BitVec.eq_of_getLsbD_eq fun b hb => ?_, h1⟩, h2⟩, h3⟩, h5⟩
    rw [disjGo_bits hall b, BitVec.getLsbD_allOnes, cnt_pos.2 (by rw [h4 b hb]; omega)]
    simp [hb]
theorem cntTo_succ {cells : List (BitVec 256)} {c b : Nat} {x : BitVec 256} (h : cells[c]? = some x) : cntTo cells (c + 1) b = cntTo cells c b + ind x b := by
  unfold cntTo ind
  rw [take_succ_snoc h, List.filter_append]
  cases hx : x.getLsbD b <;> simp [hx]
theorem cntTo_all (cells : List (BitVec 256)) (b : Nat) : cntTo cells cells.length b = cnt cells b := by unfold cntTo cnt; rw [List.take_length]
theorem cntTo_le (cells : List (BitVec 256)) (c b : Nat) : cntTo cells c b ≤ c := Nat.le_trans (List.length_filter_le _ _) (by simp; omega)

/-! ### the walks -/
theorem slB_ : SlT Tryd.prog 96 112 tB.size 256 (Tryd.t112.zero.getD undef) := sl96
theorem zero_B (S : Nat → Prop) (H : Heap) : tB.rep S H ((Tryd.t112.zero.getD undef).cells.toList) 0#256 := by
  show _ = bitsL 0#256
  kernel_rfl
theorem sets_l (v1 v2 : Value) (ca : Option Addr) (cc : Nat) (cells : List (BitVec 256)) (S : Nat → Prop) (H : Heap) (hS : ∀ k, S k → k < H.size) (hc : SlD tSet S H ca cc cells) (hn : cells.length ≤ 4194304) :
    FnOk Tryd.prog 51 #[.agg #[.slice ca cells.length cc, v1, v2]] H fun v H' => Agr (Old H) H H' ∧ H.size ≤ H'.size ∧ ∃ b, v = .slice (some ⟨b, 0, none⟩) cells.length cells.length ∧ H.size ≤ b ∧
      SlO tB (fun _ => False) H' H.size 112 v cells := by
  refine FnOk.of_vc Tryd.func51 rfl (Tryd.call51 _) ?_
  (conv => whnf); refine vbox [.slice ca cells.length cc, v1, v2] rfl ?_
  intro pb H1 hpb hs1 hb1 ha1
  (conv => whnf); refine VC.fa fl26_0 ?_
  (conv => whnf); refine ld1 ct22 (by rw [hb1.cell]; rfl) trivial ?_
  (conv => whnf); refine vmakeT (T := tB) (v := 0#256) (S := fun _ => False) slB_ (zero_B _ _) (by omega) rfl (by omega) (by omega) ?_
  intro nb H2 hnb hs2 hb2 ha2
  rw [Int.toNat_natCast] at hb2
  (conv => whnf)
  refine VLoop.mk [4] (fun k : Nat => [.int .i64 k]) (fun k H3 => k ≤ cells.length ∧ Agr (fun j => j < H2.size ∧ j ≠ nb) H2 H3 ∧ H2.size ≤ H3.size ∧
    SlO tB (fun _ => False) H3 H.size 112 (.slice (some ⟨nb, 0, none⟩) cells.length cells.length) (cells.take k ++ List.replicate (cells.length - k) 0#256)) (fun k _ => cells.length - k) ?_ ?_
  · (conv => whnf)
    refine ⟨0, rfl, by omega, Agr.refl _ _, Nat.le_refl _, ?_⟩
    rw [fill_beg]
    exact SlO.made (by omega) hb2 (zero_B _ _) (by unfold maxLen; omega)
  · rintro k H3 junk ⟨hk, ha3, hs3, hown⟩
    have hb13 := (hb1.agr ha2 (show pb < nb by omega)).agr ha3 ⟨by omega, by omega⟩
    (conv => whnf); refine VC.fa fl26_0 ?_
    (conv => whnf); refine ld1 ct22 (by rw [hb13.cell]; rfl) trivial ?_
    (conv => whnf); refine VIte.mk (fun h => ?_) (fun h => ?_) <;> simp only [decide_eq_true_eq, decide_eq_false_iff_not] at h
    · obtain ⟨x, hx⟩ := get_some (l := cells) (k := k) (by omega)
      have hA : Agr (Old H) H H3 := ((ha1.mono fun j hj => by unfold Old at hj; omega).trans (ha2.mono fun j hj => by unfold Old at hj; omega)).trans (ha3.mono fun j hj => by unfold Old at hj; omega)
      (conv => whnf); refine VC.fa fl26_0 ?_
      (conv => whnf); refine ld1 ct22 (by rw [hb13.cell]; rfl) trivial ?_
      (conv => whnf); refine ixr sl22 (hc.frame (hA.mono hS)) hx rfl ?_
      rintro b4 o4 cs4 hSb4 hcells4 rfl
      (conv => whnf); refine ldN (cs := setL x) ag70 hcells4 trivial ?_
      (conv => whnf); refine pures (from_p x H3) fun H4 ha4 => ?_
      have hs4 := old_size ha4
      have hown4 := hown.agr ha4 (fun b hb => (hown.lt hb).2) (fun _ f => f.elim)
      obtain ⟨-, -, hlo5, l5, hblk5, hlen5, hget5, hput5⟩ := hown4.placeS (i := k) (by rw [fill_len hk]; omega)
      have hszB : tB.size = 256 := rfl
      (conv => whnf); refine ix slB_ (by omega) (by omega) ?_
      (conv => whnf); refine VC.stN (cs := bitsL x) (by rw [show (bitsL x).length = 256 from bitsTo_len _ _]; rfl) hblk5 (by rw [Nat.zero_add, Int.toNat_natCast, show (bitsL x).length = 256 from bitsTo_len _ _]; exact hlen5) (bits_ones x 256) ?_
      intro H6 hb6 ha6 hs6
      rw [Nat.zero_add, Int.toNat_natCast] at hb6
      have hown6 := hput5 H6 (bitsL x) x hb6 (fun j hj => hj.elim) rfl
      rw [fill_set hx] at hown6
      (conv => whnf); rw [w64 (x := (k : Int) + 1) (by omega) (by omega)]
      exact ⟨rfl, k + 1, by simp, ⟨by omega, (ha3.trans (ha4.mono fun j hj => by unfold Old; omega)).trans (ha6.mono fun j hj => hj.2), by omega, hown6⟩, by omega⟩
    · obtain rfl : k = cells.length := by omega
      rw [fill_end] at hown
      (conv => whnf)
      exact ⟨((ha1.mono fun j hj => by unfold Old at hj; omega).trans (ha2.mono fun j hj => by unfold Old at hj; omega)).trans (ha3.mono fun j hj => by unfold Old at hj; omega), by omega, nb, rfl, by omega, hown⟩

theorem rowOk_bad {n m : Nat} {row : List Int} {c : Nat} {t : Int} (h : row[c]? = some t) (ht : t < 0 ∨ (n : Int) ≤ t) : rowOk n m row = false := by
  cases hr : rowOk n m row with
  | false => rfl
  | true =>
    unfold rowOk at hr
    simp only [Bool.and_eq_true, List.all_eq_true, decide_eq_true_eq] at hr
    have := hr.2 t (List.mem_of_getElem? h)
    omega
set_option maxHeartbeats 4000000 in
theorem refsound_p (ca na fa : Option Addr) (cc nc fl fc : Nat) (cells : List (BitVec 256)) (next : List (List Int)) (S : Nat → Prop) (H : Heap) (hS : ∀ k, S k → k < H.size) (hc : SlD tB S H ca cc cells) (hn : SlD tRows S H na nc next) (hcn : cells.length ≤ 4194304) (hnn : next.length ≤ 4194304) (hfn : fl ≤ 4194304) :
    Pure Tryd.prog 94 #[.slice ca cells.length cc, .slice na next.length nc, .slice fa fl fc] H (.bool (soundB cells next fl)) := by
  have no : ∀ {p : Prop}, (soundB cells next fl = true → False) → soundB cells next fl = false := fun h => by
    cases hs : soundB cells next fl with
    | false => rfl
    | true => exact (h hs).elim
  refine FnOk.of_vc Tryd.func94 rfl (Tryd.call94 _) ?_
  by_cases e1 : next.length < 1
  · have d1 : decide ((next.length : Int) < 1) = true := decide_eq_true (by omega)
    (conv => whnf); rw [d1]
    (conv => whnf)
    exact ⟨by rw [no (p := True) fun h => by have := (soundB_iff.1 h).1; omega], Agr.refl _ _⟩
  have d1 : decide ((next.length : Int) < 1) = false := decide_eq_false (by omega)
  by_cases e2 : 65536 < next.length
  · have d2 : decide ((65536 : Int) < (next.length : Int)) = true := decide_eq_true (by omega)
    (conv => whnf); rw [d1]
    (conv => whnf); rw [d2]
    (conv => whnf)
    exact ⟨by rw [no (p := True) fun h => by have := (soundB_iff.1 h).1; omega], Agr.refl _ _⟩
  have d2 : decide ((65536 : Int) < (next.length : Int)) = false := decide_eq_false (by omega)
  by_cases e3 : next.length = fl
  · subst e3
    have d3 : ((next.length : Int) != (next.length : Int)) = false := by simp
    (conv => whnf); rw [d1]
    (conv => whnf); rw [d2]
    (conv => whnf); rw [d3]
    (conv => whnf)
    refine VLoop.mk [7] (fun b : Nat => [.int .i64 b]) (fun b H2 => b ≤ 256 ∧ H2 = H ∧ ∀ i, i < b → cnt cells i = 1) (fun b _ => 256 - b) ?_ ?_
    · (conv => whnf); exact ⟨0, rfl, by omega, rfl, fun i hi => by omega⟩
    · rintro b H2 junk ⟨hb, rfl, hcnt⟩
      (conv => whnf); refine VIte.mk (fun h => ?_) (fun h => ?_) <;> simp only [decide_eq_true_eq, decide_eq_false_iff_not] at h
      · (conv => whnf)
        refine VLoop.mk [8, 9] (fun c : Nat => [.int .i64 (cntTo cells c b : Nat), .int .i64 c]) (fun c H3 => c ≤ cells.length ∧ H3 = H2) (fun c _ => cells.length - c) ?_ ?_
        · (conv => whnf); exact ⟨0, by simp [cntTo], by omega, rfl⟩
        · rintro c H3 junk3 ⟨hcl, rfl⟩
          have hle := cntTo_le cells c b
          (conv => whnf); refine VIte.mk (fun h => ?_) (fun h => ?_) <;> simp only [decide_eq_true_eq, decide_eq_false_iff_not] at h
          · obtain ⟨x, hx⟩ := get_some (l := cells) (k := c) (by omega)
            (conv => whnf); refine VSeq.run ?_
            (conv => whnf); refine ixr slB_ hc hx rfl ?_
            rintro b4 o4 cs4 hSb4 hcells4 rfl
            (conv => whnf); refine ixa ar112 (by omega) (by omega) ?_
            (conv => whnf); refine ld1 (v := .bool (x.getLsbD b)) ct4 (by rw [show o4 + ((b : Nat) : Int).toNat * 1 = o4 + b by omega]; exact hcells4 b _ (bitsL_get x (by omega))) trivial ?_
            have hsucc := cntTo_succ (b := b) hx
            unfold ind at hsucc
            (conv => whnf); refine VIte.mk (fun hbit => ?_) (fun hbit => ?_)
            · rw [hbit, if_pos rfl] at hsucc
              (conv => whnf); rw [w64 (x := (cntTo cells c b : Int) + 1) (by omega) (by omega), w64 (x := (c : Int) + 1) (by omega) (by omega)]
              exact ⟨rfl, c + 1, by rw [hsucc]; simp, ⟨by omega, rfl⟩, by omega⟩
            · rw [hbit] at hsucc
              simp only [Bool.false_eq_true, if_false, Nat.add_zero] at hsucc
              (conv => whnf); rw [w64 (x := (c : Int) + 1) (by omega) (by omega)]
              exact ⟨rfl, c + 1, by rw [hsucc]; simp, ⟨by omega, rfl⟩, by omega⟩
          · obtain rfl : c = cells.length := by omega
            rw [cntTo_all] at *
            (conv => whnf); refine VIte.mk (fun h1 => ?_) (fun h1 => ?_)
            · (conv => whnf)
              have h1' : cnt cells b ≠ 1 := fun h => by rw [h] at h1; simp at h1
              exact ⟨by rw [no (p := True) fun h => h1' ((soundB_iff.1 h).2.1 b (by omega))], Agr.refl _ _⟩
            · have h1' : cnt cells b = 1 := by
                have : ((cnt cells b : Nat) : Int) = 1 := by simpa using h1
                omega
              (conv => whnf); rw [w64 (x := (b : Int) + 1) (by omega) (by omega)]
              refine ⟨rfl, b + 1, by simp, ⟨by omega, rfl, fun i hi => ?_⟩, by omega⟩
              by_cases hib : i = b
              · subst hib; exact h1'
              · exact hcnt i (by omega)
      · obtain rfl : b = 256 := by omega
        (conv => whnf)
        refine VLoop.mk [10] (fun q : Nat => [.int .i64 q]) (fun q H3 => q ≤ next.length ∧ H3 = H2 ∧ ∀ (i : Nat) row, i < q → next[i]? = some row → rowOk next.length cells.length row = true) (fun q _ => next.length - q) ?_ ?_
        · (conv => whnf); exact ⟨0, rfl, by omega, rfl, fun i row hi => by omega⟩
        · rintro q H3 junk3 ⟨hq, rfl, hrows⟩
          (conv => whnf); refine VIte.mk (fun h => ?_) (fun h => ?_) <;> simp only [decide_eq_true_eq, decide_eq_false_iff_not] at h
          · obtain ⟨row, hrow⟩ := get_some (l := next) (k := q) (by omega)
            (conv => whnf); refine ixr sl23 hn hrow rfl ?_
            rintro b4 o4 cs4 hSb4 hcells4 ⟨ra, rc, rfl, hr⟩
            (conv => whnf); refine ld1 ct33 hcells4.one trivial ?_
            (conv => whnf); refine VIte.mk (fun h1 => ?_) (fun h1 => ?_)
            · (conv => whnf)
              have h1' : row.length ≠ cells.length := fun h => by rw [h] at h1; simp at h1
              exact ⟨by rw [no (p := True) fun h => h1' (by have := (soundB_iff.1 h).2.2 row (List.mem_of_getElem? hrow); simp only [rowOk, Bool.and_eq_true, beq_iff_eq] at this; exact this.1)], Agr.refl _ _⟩
            · have h1' : row.length = cells.length := by
                have : (row.length : Int) = (cells.length : Int) := by simpa using h1
                omega
              (conv => whnf)
              refine VLoop.mk [11] (fun c : Nat => [.int .i64 c]) (fun c H4 => c ≤ cells.length ∧ H4 = H3 ∧ ∀ (i : Nat) t, i < c → row[i]? = some t → 0 ≤ t ∧ t < (next.length : Int)) (fun c _ => cells.length - c) ?_ ?_
              · (conv => whnf); exact ⟨0, rfl, by omega, rfl, fun i t hi => by omega⟩
              · rintro c H4 junk4 ⟨hcl, rfl, hts⟩
                (conv => whnf); refine VIte.mk (fun h => ?_) (fun h => ?_) <;> simp only [decide_eq_true_eq, decide_eq_false_iff_not] at h
                · obtain ⟨t, ht⟩ := get_some (l := row) (k := c) (by omega)
                  (conv => whnf); refine ixr sl23 hn hrow rfl ?_
                  rintro b5 o5 cs5 hSb5 hcells5 ⟨ra5, rc5, rfl, hr5⟩
                  (conv => whnf); refine ld1 ct33 hcells5.one trivial ?_
                  (conv => whnf); refine ixr sl33 hr5 ht rfl ?_
                  rintro b6 o6 cs6 hSb6 hcells6 ⟨rfl, -⟩
                  (conv => whnf); refine ld1 ct3 hcells6.one trivial ?_
                  by_cases hneg : t < 0
                  · have d4 : decide (t < 0) = true := decide_eq_true hneg
                    (conv => whnf); rw [d4]
                    (conv => whnf)
                    exact ⟨by rw [no (p := True) fun h => by have := (soundB_iff.1 h).2.2 row (List.mem_of_getElem? hrow); rw [rowOk_bad ht (.inl hneg)] at this; cases this], Agr.refl _ _⟩
                  · have d4 : decide (t < 0) = false := decide_eq_false hneg
                    (conv => whnf); rw [d4]
                    (conv => whnf); refine ixr sl23 hn hrow rfl ?_
                    rintro b7 o7 cs7 hSb7 hcells7 ⟨ra7, rc7, rfl, hr7⟩
                    (conv => whnf); refine ld1 ct33 hcells7.one trivial ?_
                    (conv => whnf); refine ixr sl33 hr7 ht rfl ?_
                    rintro b8 o8 cs8 hSb8 hcells8 ⟨rfl, -⟩
                    (conv => whnf); refine ld1 ct3 hcells8.one trivial ?_
                    (conv => whnf); refine VIte.mk (fun h2 => ?_) (fun h2 => ?_) <;> simp only [decide_eq_true_eq, decide_eq_false_iff_not] at h2
                    · (conv => whnf)
                      exact ⟨by rw [no (p := True) fun h => by have := (soundB_iff.1 h).2.2 row (List.mem_of_getElem? hrow); rw [rowOk_bad ht (.inr h2)] at this; cases this], Agr.refl _ _⟩
                    · (conv => whnf); rw [w64 (x := (c : Int) + 1) (by omega) (by omega)]
                      refine ⟨rfl, c + 1, by simp, ⟨by omega, rfl, fun i t' hi ht' => ?_⟩, by omega⟩
                      by_cases hic : i = c
                      · subst hic; rw [ht] at ht'; cases ht'; omega
                      · exact hts i t' (by omega) ht'
                · obtain rfl : c = cells.length := by omega
                  (conv => whnf); rw [w64 (x := (q : Int) + 1) (by omega) (by omega)]
                  refine ⟨rfl, q + 1, by simp, ⟨by omega, rfl, fun i row' hi hrow' => ?_⟩, by omega⟩
                  by_cases hiq : i = q
                  · subst hiq
                    rw [hrow] at hrow'; cases hrow'
                    simp only [rowOk, Bool.and_eq_true, beq_iff_eq, List.all_eq_true, decide_eq_true_eq]
                    refine ⟨h1', fun t ht => ?_⟩
                    obtain ⟨j, hj⟩ := List.getElem?_of_mem ht
                    exact hts j t (by have := (List.getElem?_eq_some_iff.1 hj).1; omega) hj
                  · exact hrows i row' (by omega) hrow'
          · obtain rfl : q = next.length := by omega
            (conv => whnf)
            refine ⟨?_, Agr.refl _ _⟩
            rw [soundB_iff.2 ⟨⟨by omega, by omega, rfl⟩, fun b hb => hcnt b hb, fun row hrow => ?_⟩]
            obtain ⟨j, hj⟩ := List.getElem?_of_mem hrow
            exact hrows j row (List.getElem?_eq_some_iff.1 hj).1 hj
  · have d3 : ((next.length : Int) != (fl : Int)) = true := by simp; omega
    (conv => whnf); rw [d1]
    (conv => whnf); rw [d2]
    (conv => whnf); rw [d3]
    (conv => whnf)
    exact ⟨by rw [no (p := True) fun h => by have := (soundB_iff.1 h).1; omega], Agr.refl _ _⟩

end Go.Proofs.YthomdogheamfpaaDoor

/- The document's Atoms. -/
set_option linter.unusedVariables false
set_option linter.unusedSimpArgs false
set_option maxRecDepth 100000
namespace Go.Proofs.YthomdogheamfpaaDoor
open Go.VC
attribute [local irreducible] mRun

theorem slF_ : SlT Tryd.prog 96 112 tF.size 256 (Tryd.t112.zero.getD undef) := sl96

/-! ### the plain run -/
def sigEq (cells : List (BitVec 256)) (a b : Nat) : Bool := cells.all fun c => c.getLsbD a == c.getLsbD b
/-- The least bytes of the atoms so far, the place of each byte so far. -/
def atRun (cells : List (BitVec 256)) : Nat → List Nat × List Nat
  | 0 => ([], [])
  | b + 1 => match (atRun cells b).1.findIdx? fun g => sigEq cells b g with
    | some k => ((atRun cells b).1, (atRun cells b).2 ++ [k])
    | none => ((atRun cells b).1 ++ [b], (atRun cells b).2 ++ [(atRun cells b).1.length])
def atSet (ps : List Nat) (k : Nat) (b : Nat) : Bool := ps[b]? == some k
def atSets (ps : List Nat) (n : Nat) : List (Nat → Bool) := (List.range n).map (atSet ps)
structure AtOk (cells : List (BitVec 256)) (b : Nat) (f ps : List Nat) : Prop where
  plen : ps.length = b
  flen : f.length ≤ b
  lt : ∀ p ∈ ps, p < f.length
  first : ∀ (k g : Nat), f[k]? = some g → g < b ∧ ps[g]? = some k
  sig : ∀ (i p g : Nat), ps[i]? = some p → f[p]? = some g → sigEq cells i g = true ∧ g ≤ i
theorem sigEq_refl (cells : List (BitVec 256)) (a : Nat) : sigEq cells a a = true := by simp [sigEq]
theorem atRun_ok (cells : List (BitVec 256)) : ∀ b, AtOk cells b (atRun cells b).1 (atRun cells b).2
  | 0 => ⟨rfl, Nat.le_refl _, (fun p h => by cases h), (fun k g h => by cases h), (fun i p g h => by cases h)⟩
  | b + 1 => by
    have ih := atRun_ok cells b
    unfold atRun
    split
    · rename_i k hk
      rw [List.findIdx?_eq_some_iff_getElem] at hk
      obtain ⟨hlt, hsig, _⟩ := hk
      refine ⟨by simp [ih.plen], by have := ih.flen; simp only; omega, fun p hp => ?_, fun k' g hg => ?_, fun i p g hi hg => ?_⟩
      · rcases List.mem_append.1 hp with h | h
        · exact ih.lt p h
        · rw [List.mem_singleton] at h; subst h; exact hlt
      · obtain ⟨h1, h2⟩ := ih.first k' g hg
        exact ⟨by omega, by simp only; rw [List.getElem?_append_left (by rw [ih.plen]; exact h1)]; exact h2⟩
      · simp only at hi hg
        by_cases hib : i < b
        · rw [List.getElem?_append_left (by rw [ih.plen]; exact hib)] at hi
          exact ih.sig i p g hi hg
        · rw [List.getElem?_append_right (by rw [ih.plen]; omega), ih.plen] at hi
          have hi0 : i - b = 0 := by
            have := (List.getElem?_eq_some_iff.1 hi).1
            simp only [List.length_singleton] at this
            omega
          rw [hi0, List.getElem?_cons_zero] at hi
          cases hi
          rw [List.getElem?_eq_getElem hlt] at hg
          cases hg
          have hib' : i = b := by omega
          subst hib'
          exact ⟨hsig, by have := (ih.first _ _ (List.getElem?_eq_getElem hlt)).1; omega⟩
    · rename_i hk
      refine ⟨by simp [ih.plen], by have := ih.flen; simp; omega, fun p hp => ?_, fun k' g hg => ?_, fun i p g hi hg => ?_⟩
      · simp only [List.length_append, List.length_singleton]
        rcases List.mem_append.1 hp with h | h
        · have := ih.lt p h; omega
        · rw [List.mem_singleton] at h; subst h; omega
      · simp only at hg ⊢
        by_cases hkl : k' < (atRun cells b).1.length
        · rw [List.getElem?_append_left hkl] at hg
          obtain ⟨h1, h2⟩ := ih.first k' g hg
          exact ⟨by omega, by rw [List.getElem?_append_left (by rw [ih.plen]; exact h1)]; exact h2⟩
        · rw [List.getElem?_append_right (by omega)] at hg
          have h0 := (List.getElem?_eq_some_iff.1 hg).1
          simp only [List.length_singleton] at h0
          rw [show k' - (atRun cells b).1.length = 0 by omega, List.getElem?_cons_zero] at hg
          cases hg
          exact ⟨by omega, by rw [List.getElem?_append_right (by rw [ih.plen]; omega), ih.plen, Nat.sub_self, List.getElem?_cons_zero]; congr 1; omega⟩
      · simp only at hi hg
        by_cases hib : i < b
        · rw [List.getElem?_append_left (by rw [ih.plen]; exact hib)] at hi
          have hp := ih.lt p (List.mem_of_getElem? hi)
          rw [List.getElem?_append_left hp] at hg
          exact ih.sig i p g hi hg
        · rw [List.getElem?_append_right (by rw [ih.plen]; omega), ih.plen] at hi
          have hi0 : i - b = 0 := by
            have := (List.getElem?_eq_some_iff.1 hi).1
            simp only [List.length_singleton] at this
            omega
          rw [hi0, List.getElem?_cons_zero] at hi
          cases hi
          rw [List.getElem?_append_right (Nat.le_refl _), Nat.sub_self, List.getElem?_cons_zero] at hg
          cases hg
          have hib' : i = b := by omega
          subst hib'
          exact ⟨sigEq_refl _ _, Nat.le_refl _⟩

def asI (l : List Nat) : List Int := l.map fun (n : Nat) => (n : Int)
theorem asI_get {l : List Nat} {i n : Nat} (h : l[i]? = some n) : (asI l)[i]? = some (n : Int) := by unfold asI; rw [List.getElem?_map, h]; rfl
theorem asI_len (l : List Nat) : (asI l).length = l.length := by simp [asI]
theorem atSets_len (ps : List Nat) (n : Nat) : (atSets ps n).length = n := by simp [atSets]
theorem atSets_get {ps : List Nat} {n k : Nat} (h : k < n) : (atSets ps n)[k]? = some (atSet ps k) := by unfold atSets; rw [List.getElem?_map, List.getElem?_range h]; rfl
/-- One byte more has its place. -/
theorem atSets_put {ps : List Nat} {n k : Nat} (hk : k < n) : (atSets ps n).set k (fun b => decide (b = ps.length) || atSet ps k b) = atSets (ps ++ [k]) n := by
  apply List.ext_getElem?
  intro i
  by_cases hi : i < n
  · rw [List.getElem?_set, atSets_len, atSets_get hi, atSets_get hi]
    have key : ∀ j, atSet (ps ++ [k]) j = fun b => (decide (b = ps.length) && decide (j = k)) || atSet ps j b := by
      intro j
      funext b
      unfold atSet
      rcases Nat.lt_trichotomy b ps.length with h | h | h
      · rw [List.getElem?_append_left h, decide_eq_false (by omega)]; simp
      · subst h
        rw [List.getElem?_append_right (Nat.le_refl _), Nat.sub_self, List.getElem?_cons_zero, List.getElem?_eq_none (Nat.le_refl _)]
        simp [eq_comm]
        by_cases h : k = j <;> simp [h]
      · rw [List.getElem?_eq_none (by simp; omega), List.getElem?_eq_none (by omega), decide_eq_false (by omega)]; simp
    rw [key]
    by_cases hik : k = i
    · subst hik; simp [hi]
    · rw [if_neg hik]
      have : (decide (i = k)) = false := decide_eq_false (Ne.symm hik)
      simp [this]
  · rw [List.getElem?_eq_none (by simp [atSets_len]; omega), List.getElem?_eq_none (by simp [atSets_len]; omega)]
theorem atSets_more (ps : List Nat) (n : Nat) (h : ∀ p ∈ ps, p < n) : atSets ps (n + 1) = atSets ps n ++ [fun _ => false] := by
  unfold atSets
  rw [List.range_succ, List.map_append]
  congr 1
  simp only [List.map_cons, List.map_nil, List.cons.injEq, and_true]
  funext b
  unfold atSet
  cases hb : ps[b]? with
  | none => rfl
  | some p => have := h p (List.mem_of_getElem? hb); simp; omega

end Go.Proofs.YthomdogheamfpaaDoor

/- The document's Atoms: the walk. -/
set_option linter.unusedVariables false
set_option linter.unusedSimpArgs false
set_option maxRecDepth 100000
namespace Go.Proofs.YthomdogheamfpaaDoor
open Go.VC
attribute [local irreducible] mRun

theorem splice_set {l c : List Value} {o b : Nat} {v : Value} (h : ∀ i, i < c.length → l[o + i]? = c[i]?) (hl : o + c.length ≤ l.length) (hb : b < c.length) : splice l o (c.set b v) = l.set (o + b) v := by
  apply List.ext_getElem?
  intro j
  rw [splice_get (by rw [List.length_set]; exact hl), List.length_set, List.getElem?_set (l := l)]
  by_cases hj : o ≤ j ∧ j < o + c.length
  · rw [if_pos hj, List.getElem?_set]
    by_cases hjb : o + b = j
    · rw [if_pos hjb, if_pos (by omega), if_pos (by omega), if_pos (by omega)]
    · rw [if_neg hjb, if_neg (by omega), ← h (j - o) (by omega), show o + (j - o) = j by omega]
  · rw [if_neg hj, if_neg (by omega)]
theorem SlO.byte {H : Heap} {lo : Nat} {e : TypeId} {v : Value} {xs : List (Nat → Bool)} {k b : Nat} {f : Nat → Bool} (h : SlO tF (fun _ => False) H lo e v xs) (hk : xs[k]? = some f) (hb : b < 256) :
    ∃ vb cap l, v = .slice (some ⟨vb, 0, none⟩) xs.length cap ∧ lo ≤ vb ∧ Blk H vb e l ∧ k * 256 + b < l.length ∧ ∀ H', Blk H' vb e (l.set (k * 256 + b) (.bool true)) → SlO tF (fun _ => False) H' lo e v (xs.set k fun i => decide (i = b) || f i) := by
  have hlt := (List.getElem?_eq_some_iff.1 hk).1
  obtain ⟨vb, cap, l, cs, e1, h1, h2, h3, h4, h5, h6⟩ := h.place hlt
  have hsz : tF.size = 256 := rfl
  rw [hsz] at h3 h4 h6
  obtain ⟨c, hc, rfl⟩ := h4 f hk
  refine ⟨vb, cap, l, e1, h1, h2, by omega, fun H' hb' => h6 H' (funL fun i => decide (i = b) || f i) _ ?_ (fun _ f => f.elim) rfl⟩
  rw [← funL_set f hb, splice_set (by
    intro i hi
    obtain ⟨u, hu⟩ := get_some hi
    have := hc i u hu
    rw [h2.cell] at this
    rw [this, hu]) (by rw [funL_len]; exact h3) (by rw [funL_len]; exact hb)]
  exact hb'

theorem atRun_some {cells : List (BitVec 256)} {b k : Nat} (h : (atRun cells b).1.findIdx? (fun g => sigEq cells b g) = some k) : atRun cells (b + 1) = ((atRun cells b).1, (atRun cells b).2 ++ [k]) := by
  rw [atRun, h]
theorem atRun_none {cells : List (BitVec 256)} {b : Nat} (h : (atRun cells b).1.findIdx? (fun g => sigEq cells b g) = none) : atRun cells (b + 1) = ((atRun cells b).1 ++ [b], (atRun cells b).2 ++ [(atRun cells b).1.length]) := by
  rw [atRun, h]
def fdI (cells : List (BitVec 256)) (b : Nat) (l : List Nat) : Int := match l.findIdx? fun g => sigEq cells b g with
  | some k => (k : Int)
  | none => -1
theorem fdI_none {cells : List (BitVec 256)} {b : Nat} {l : List Nat} : fdI cells b l < 0 ↔ (l.findIdx? fun g => sigEq cells b g) = none := by
  unfold fdI
  split
  · rename_i k h; rw [h]; simp
  · rename_i h; rw [h]; simp
theorem fdI_in {cells : List (BitVec 256)} {b : Nat} {l : List Nat} : -1 ≤ fdI cells b l ∧ fdI cells b l < l.length := by
  unfold fdI
  split
  · rename_i k h
    have := (List.findIdx?_eq_some_iff_getElem.1 h).1
    omega
  · omega
theorem fdI_snoc {cells : List (BitVec 256)} {b g : Nat} {l : List Nat} (h : fdI cells b l < 0) : fdI cells b (l ++ [g]) = if sigEq cells b g then (l.length : Int) else -1 := by
  have h1 := fdI_none.1 h
  unfold fdI
  rw [List.findIdx?_append, h1]
  simp only [List.findIdx?_singleton, Option.none_or]
  cases hs : sigEq cells b g <;> simp
theorem fdI_take {cells : List (BitVec 256)} {b k : Nat} {l : List Nat} (h : 0 ≤ fdI cells b (l.take k)) : fdI cells b l = fdI cells b (l.take k) := by
  have h1 : (l.take k).findIdx? (fun g => sigEq cells b g) ≠ none := fun h2 => by have := fdI_none.2 h2; omega
  cases h2 : (l.take k).findIdx? (fun g => sigEq cells b g) with
  | none => exact absurd h2 h1
  | some k0 =>
    have h3 : l.findIdx? (fun g => sigEq cells b g) = some k0 := by
      conv => lhs; rw [← List.take_append_drop k l]
      rw [List.findIdx?_append, h2]; rfl
    unfold fdI
    rw [h2, h3]
def alikeTo (cells : List (BitVec 256)) (b g j : Nat) : Bool := (cells.take j).all fun c => c.getLsbD b == c.getLsbD g
theorem alikeTo_succ {cells : List (BitVec 256)} {b g j : Nat} {c : BitVec 256} (h : cells[j]? = some c) : alikeTo cells b g (j + 1) = (alikeTo cells b g j && (c.getLsbD b == c.getLsbD g)) := by
  unfold alikeTo
  rw [take_succ_snoc h, List.all_append]; simp
theorem alikeTo_all (cells : List (BitVec 256)) (b g : Nat) : alikeTo cells b g cells.length = sigEq cells b g := by unfold alikeTo sigEq; rw [List.take_length]
theorem alikeTo_no {cells : List (BitVec 256)} {b g j : Nat} (h : alikeTo cells b g j = false) : sigEq cells b g = false := by
  unfold alikeTo at h
  unfold sigEq
  rw [← List.take_append_drop j cells, List.all_append, h]; rfl

set_option maxHeartbeats 4000000 in
theorem atoms_c (ca : Option Addr) (cc : Nat) (cells : List (BitVec 256)) (S : Nat → Prop) (H : Heap) (hS : ∀ k, S k → k < H.size) (hc : SlD tB S H ca cc cells) (hn : cells.length ≤ 4194304) :
    FnOk Tryd.prog 105 #[.slice ca cells.length cc] H fun v H' => Agr (Old H) H H' ∧ H.size ≤ H'.size ∧ ∃ a cap, v = .slice a (atRun cells 256).1.length cap ∧
      SlD tF (Fresh H H') H' a cap (atSets (atRun cells 256).2 (atRun cells 256).1.length) := by
  refine FnOk.of_vc Tryd.func105 rfl (Tryd.call105 _) ?_
  (conv => whnf)
  refine VLoop.mk [3, 4, 5] (fun x : Nat × Value × Value => match x with | (b, vo, vf) => [vo, vf, .int .i64 b]) (fun x H2 => x.1 ≤ 256 ∧ Agr (Old H) H H2 ∧ H.size ≤ H2.size ∧
    SlO tF (fun _ => False) H2 H.size 112 x.2.1 (atSets (atRun cells x.1).2 (atRun cells x.1).1.length) ∧ SlO tI (fun _ => False) H2 H.size 3 x.2.2 (asI (atRun cells x.1).1) ∧ ∀ j, slB x.2.1 j → ¬ slB x.2.2 j) (fun x _ => 256 - x.1) ?_ ?_
  · (conv => whnf)
    exact ⟨(0, .slice none 0 0, .slice none 0 0), rfl, by simp, Agr.refl _ _, Nat.le_refl _, SlO.nil, SlO.nil, fun j hj => by obtain ⟨o, n, c, h⟩ := hj; cases h⟩
  · rintro ⟨b, vo, vf⟩ H2 junk ⟨hb, ha2, hs2, ho, hf, hap⟩
    simp only at hb ho hf hap
    have hok := atRun_ok cells b
    have hfl := hok.flen
    obtain ⟨fa, fcap, rfl, hfv, -⟩ := hf.view (S' := Old H2) (fun j hj => (hf.lt hj).2) (fun _ f => f.elim)
    obtain ⟨oa, ocap, rfl, hov, -⟩ := ho.view (S' := Old H2) (fun j hj => (ho.lt hj).2) (fun _ f => f.elim)
    rw [asI_len, atSets_len] at *
    have hcS := hc.frame (ha2.mono hS)
    (conv => whnf); refine VIte.mk (fun h => ?_) (fun h => ?_) <;> simp only [decide_eq_true_eq, decide_eq_false_iff_not] at h
    · (conv => whnf)
      refine VLoop.mk [6, 7] (fun k : Nat => [.int .i64 (fdI cells b ((atRun cells b).1.take k)), .int .i64 k]) (fun k H3 => k ≤ (atRun cells b).1.length ∧ H3 = H2) (fun k _ => (atRun cells b).1.length - k) ?_ ?_
      · (conv => whnf); exact ⟨0, rfl, by omega, rfl⟩
      · rintro k H3 junk3 ⟨hk, rfl⟩
        by_cases hkl : k < (atRun cells b).1.length
        · have d1 : decide ((k : Int) < ((atRun cells b).1.length : Int)) = true := decide_eq_true (by omega)
          (conv => whnf); rw [d1]
          (conv => whnf); refine VIte.mk (fun h1 => ?_) (fun h1 => ?_) <;> simp only [decide_eq_true_eq, decide_eq_false_iff_not] at h1
          · obtain ⟨g, hg⟩ := get_some hkl
            have hgb := (hok.first k g hg).1
            (conv => whnf); refine VSeq.run ?_
            (conv => whnf)
            refine VLoop.mk [8, 9] (fun j : Nat => [.bool (alikeTo cells b g j), .int .i64 j]) (fun j H4 => j ≤ cells.length ∧ H4 = H3) (fun j _ => cells.length - j) ?_ ?_
            · (conv => whnf); exact ⟨0, rfl, by omega, rfl⟩
            · rintro j H4 junk4 ⟨hj, rfl⟩
              -- behind the inner loop
              by_cases hjl : j < cells.length
              · have d2 : decide ((j : Int) < (cells.length : Int)) = true := decide_eq_true (by omega)
                cases hal : alikeTo cells b g j with
                | true =>
                  obtain ⟨x, hx⟩ := get_some hjl
                  (conv => whnf); rw [d2]
                  (conv => whnf); refine VDraw.lex rfl (by kernel_rfl) ?_
                  (conv => whnf); refine ixr slB_ hcS hx rfl ?_
                  rintro b5 o5 cs5 hSb5 hcells5 rfl
                  (conv => whnf); refine ixa ar112 (by omega) (by omega) ?_
                  (conv => whnf); refine ld1 (v := .bool (x.getLsbD b)) ct4 (by rw [show o5 + ((b : Nat) : Int).toNat * 1 = o5 + b by omega]; exact hcells5 b _ (bitsL_get x (by omega))) trivial ?_
                  (conv => whnf); refine ixrn sl33 hfv (asI_len _).symm (asI_get hg) rfl ?_
                  rintro b6 o6 cs6 hSb6 hcells6 ⟨rfl, -⟩
                  (conv => whnf); refine ld1 ct3 hcells6.one trivial ?_
                  (conv => whnf); refine ixr slB_ hcS hx rfl ?_
                  rintro b7 o7 cs7 hSb7 hcells7 rfl
                  (conv => whnf); refine ixa ar112 (by omega) (by omega) ?_
                  (conv => whnf); refine ld1 (v := .bool (x.getLsbD g)) ct4 (by rw [show o7 + ((g : Nat) : Int).toNat * 1 = o7 + g by omega]; exact hcells7 g _ (bitsL_get x (by omega))) trivial ?_
                  (conv => whnf); refine beq_b rfl ?_
                  (conv => whnf); rw [w64 (x := (j : Int) + 1) (by omega) (by omega)]
                  exact ⟨rfl, j + 1, by rw [alikeTo_succ hx, hal]; simp, ⟨by omega, rfl⟩, by omega⟩
                | false =>
                  have hs := alikeTo_no hal
                  (conv => whnf); rw [d2]
                  (conv => whnf); rw [w64 (x := (k : Int) + 1) (by omega) (by omega)]
                  refine ⟨rfl, k + 1, ?_, ⟨by omega, rfl⟩, by omega⟩
                  rw [take_succ_snoc hg, fdI_snoc h1, hs]
                  have : fdI cells b ((atRun cells b).1.take k) = -1 := by have := (fdI_in (cells := cells) (b := b) (l := (atRun cells b).1.take k)).1; omega
                  rw [this]; simp
              · obtain rfl : j = cells.length := by omega
                have d2 : decide ((cells.length : Int) < (cells.length : Int)) = false := decide_eq_false (by omega)
                rw [alikeTo_all]
                cases hs : sigEq cells b g with
                | true =>
                  (conv => whnf); rw [d2]
                  (conv => whnf); rw [w64 (x := (k : Int) + 1) (by omega) (by omega)]
                  refine ⟨rfl, k + 1, ?_, ⟨by omega, rfl⟩, by omega⟩
                  rw [take_succ_snoc hg, fdI_snoc h1, hs]
                  simp; omega
                | false =>
                  (conv => whnf); rw [d2]
                  (conv => whnf); rw [w64 (x := (k : Int) + 1) (by omega) (by omega)]
                  refine ⟨rfl, k + 1, ?_, ⟨by omega, rfl⟩, by omega⟩
                  rw [take_succ_snoc hg, fdI_snoc h1, hs]
                  have : fdI cells b ((atRun cells b).1.take k) = -1 := by have := (fdI_in (cells := cells) (b := b) (l := (atRun cells b).1.take k)).1; omega
                  rw [this]; simp
          · rw [← fdI_take (by omega)]
            replace h1 : 0 ≤ fdI cells b (atRun cells b).1 := by rw [fdI_take (k := k) (by omega)]; omega
            cases hfi : (atRun cells b).1.findIdx? fun g => sigEq cells b g with
            | none => exact absurd (fdI_none.2 hfi) (by omega)
            | some k0 =>
              have hk0 := (List.findIdx?_eq_some_iff_getElem.1 hfi).1
              have hfd : fdI cells b (atRun cells b).1 = (k0 : Int) := by unfold fdI; rw [hfi]
              rw [hfd]
              have hnext : atRun cells (b + 1) = ((atRun cells b).1, (atRun cells b).2 ++ [k0]) := atRun_some hfi
              obtain ⟨vb, cap, l, e1, hlo, hblk, hlen, hput⟩ := SlO.byte ho (atSets_get hk0) (show b < 256 by omega)
              rw [atSets_len] at e1
              injection e1 with e2 e3 e4
              subst e2; subst e4
              (conv => whnf); refine VSeq.run ?_
              (conv => whnf); refine ix slF_ (by omega) (by omega) ?_
              (conv => whnf); refine ixa ar112 (by omega) (by omega) ?_
              (conv => whnf); refine st1 ct4 hblk (by rw [show tF.size = 256 from rfl]; omega) rfl ?_
              intro H6 hb6 ha6 hs6
              rw [show 0 + ((k0 : Nat) : Int).toNat * tF.size + ((b : Nat) : Int).toNat * 1 = k0 * 256 + b by rw [show tF.size = 256 from rfl]; omega] at hb6
              have ho6 := hput H6 hb6
              have hput2 := atSets_put (ps := (atRun cells b).2) hk0
              rw [hok.plen] at hput2
              rw [hput2] at ho6
              have hf6 := hf.agr ha6 (fun j hj => by rintro rfl; exact hap _ ⟨0, _, _, rfl⟩ hj) (fun _ f => f.elim)
              (conv => whnf); rw [w64 (x := (b : Int) + 1) (by omega) (by omega)]
              refine ⟨rfl, (b + 1, .slice (some ⟨vb, 0, none⟩) (atRun cells b).1.length ocap, .slice fa (atRun cells b).1.length fcap), by simp, ⟨by simp only; omega, ha2.trans (ha6.mono fun j hj => by unfold Old at hj; omega), by omega, ?_, ?_, hap⟩, by simp only; omega⟩
              · simp only [hnext]; exact ho6
              · simp only [hnext]; exact hf6
        · obtain rfl : k = (atRun cells b).1.length := by omega
          have d1 : decide (((atRun cells b).1.length : Int) < ((atRun cells b).1.length : Int)) = false := decide_eq_false (by omega)
          rw [List.take_length]
          (conv => whnf); rw [d1]
          by_cases h1 : fdI cells b (atRun cells b).1 < 0
          · have hfi := fdI_none.1 h1
            have hfd : fdI cells b (atRun cells b).1 = -1 := by have := (fdI_in (cells := cells) (b := b) (l := (atRun cells b).1)).1; omega
            rw [hfd]
            have hnext : atRun cells (b + 1) = ((atRun cells b).1 ++ [b], (atRun cells b).2 ++ [(atRun cells b).1.length]) := atRun_none hfi
            have hlt' : ∀ p ∈ (atRun cells b).2, p < (atRun cells b).1.length := hok.lt
            (conv => whnf); refine VSeq.run ?_
            (conv => whnf); refine vbuildA ar112 (Tryd.t112.zero.getD undef) rfl (List.replicate 256 (.bool false)) rfl ?_
            (conv => whnf); refine vbuild1 slF_ (List.replicate 256 (.bool false)) rfl rfl (by decide) (by decide) ?_
            intro q4 H4 hq4 hs4 hb4 ha4
            have ho4 := ho.agr ha4 (fun j hj => by have := (ho.lt hj).2; omega) (fun _ f => f.elim)
            have hf4 := hf.agr ha4 (fun j hj => by have := (hf.lt hj).2; omega) (fun _ f => f.elim)
            (conv => whnf); refine vappendO (T := tF) (S := fun _ => False) (ys := [fun _ => false]) (ds := List.replicate 256 (.bool false)) (lo := H.size) (xs := atSets (atRun cells b).2 (atRun cells b).1.length) slF_ ho4 (by omega) (fun j hj => hj.elim)
              (hb4.cells (fun j v hv => by rw [Nat.zero_add]; exact hv)) (Ty.reps_one (show List.replicate 256 (Value.bool false) = funL (fun _ => false) from funL_zero.symm)) rfl (by intro u hu; rw [List.eq_of_mem_replicate hu]; rfl) (by rw [atSets_len]; simp only [maxLen, List.length_singleton]; omega) (by rw [atSets_len]; simp only [List.length_singleton]; omega) ?_
            intro v5 H5 ho5 ha5 hs5 hfr5
            rw [← atSets_more _ _ hlt'] at ho5
            have hf5 := hf4.agr ha5 (fun j hj => ⟨(hf4.lt hj).2, fun h => hap j h hj⟩) (fun _ f => f.elim)
            have hb5 : Blk H5 q4 112 (List.replicate 256 (.bool false)) := hb4.agr ha5 ⟨hb4.lt, fun h => by have := (ho.lt h).2; omega⟩
            (conv => whnf); refine vbuild1 sl33 [.int .i64 (b : Int)] rfl rfl (by decide) (by decide) ?_
            intro q6 H6 hq6 hs6 hb6 ha6
            have ho6 := ho5.agr ha6 (fun j hj => by have := (ho5.lt hj).2; omega) (fun _ f => f.elim)
            have hf6 := hf5.agr ha6 (fun j hj => by have := (hf5.lt hj).2; omega) (fun _ f => f.elim)
            (conv => whnf); refine vappendO (T := tI) (S := fun _ => False) (ys := [(b : Int)]) (ds := [.int .i64 (b : Int)]) (lo := H.size) (xs := asI (atRun cells b).1) sl33 hf6 (by omega) (fun j hj => hj.elim)
              (hb6.cells (fun j v hv => by simpa using hv)) (Ty.reps_one ⟨rfl, inI64 (by omega)⟩) rfl (by intro u hu; cases List.mem_singleton.1 hu; rfl) (by rw [asI_len]; simp only [maxLen, List.length_singleton]; omega) (by rw [asI_len]; simp only [List.length_singleton]; omega) ?_
            intro v7 H7 hf7 ha7 hs7 hfr7
            have hap5 : ∀ j, slB v5 j → ¬ slB (.slice fa (atRun cells b).1.length fcap) j := fun j hj hj' => by
              rcases hfr5 j hj with h | h
              · exact hap j h hj'
              · have := (hf.lt hj').2; omega
            have ho7 := ho6.agr ha7 (fun j hj => ⟨(ho6.lt hj).2, hap5 j hj⟩) (fun _ f => f.elim)
            have hap7 : ∀ j, slB v5 j → ¬ slB v7 j := fun j hj hj' => by
              rcases hfr7 j hj' with h | h
              · exact hap5 j hj h
              · have := (ho6.lt hj).2; omega
            have hget7 : (atSets (atRun cells b).2 ((atRun cells b).1.length + 1))[(atRun cells b).1.length]? = some (atSet (atRun cells b).2 (atRun cells b).1.length) := atSets_get (by omega)
            obtain ⟨vb, cap, l, e1, hlo, hblk, hlen, hput⟩ := SlO.byte ho7 hget7 (show b < 256 by omega)
            subst e1
            rw [atSets_len] at *
            have hnn : (atRun cells b).1.length < (atRun cells b).1.length + 1 := by omega
            (conv => whnf); refine ix slF_ (by omega) (by omega) ?_
            (conv => whnf); refine ixa ar112 (by omega) (by omega) ?_
            (conv => whnf); refine st1 ct4 hblk (by rw [show tF.size = 256 from rfl]; omega) rfl ?_
            intro H8 hb8 ha8 hs8
            rw [show 0 + (((atRun cells b).1.length : Nat) : Int).toNat * tF.size + ((b : Nat) : Int).toNat * 1 = (atRun cells b).1.length * 256 + b by rw [show tF.size = 256 from rfl]; omega] at hb8
            have ho8 := hput H8 hb8
            have hput2 := atSets_put (ps := (atRun cells b).2) hnn
            rw [hok.plen] at hput2
            rw [hput2] at ho8
            have hf8 := hf7.agr ha8 (fun j hj => by rintro rfl; exact hap7 _ ⟨0, _, _, rfl⟩ hj) (fun _ f => f.elim)
            have hA8 : Agr (Old H) H H8 := ((((ha2.trans (ha4.mono fun j hj => by have := old_lt ha2 hj; omega)).trans (ha5.mono fun j hj => ⟨by have := old_lt ha2 hj; omega, fun h => by have := (ho.lt h).1; unfold Old at hj; omega⟩)).trans (ha6.mono fun j hj => by have := old_lt ha2 hj; omega)).trans (ha7.mono fun j hj => ⟨by have := old_lt ha2 hj; omega, fun h => by have := (hf.lt h).1; unfold Old at hj; omega⟩)).trans (ha8.mono fun j hj => by unfold Old at hj; omega)
            (conv => whnf); rw [w64 (x := (b : Int) + 1) (by omega) (by omega)]
            refine ⟨rfl, (b + 1, _, _), rfl, ⟨by simp only; omega, hA8, by omega, ?_, ?_, hap7⟩, by simp only; omega⟩
            · simp only [hnext, List.length_append, List.length_singleton]; exact ho8
            · simp only [hnext, asI, List.map_append, List.map_cons, List.map_nil]; exact hf8
          · replace h1 : 0 ≤ fdI cells b (atRun cells b).1 := by omega
            cases hfi : (atRun cells b).1.findIdx? fun g => sigEq cells b g with
            | none => exact absurd (fdI_none.2 hfi) (by omega)
            | some k0 =>
              have hk0 := (List.findIdx?_eq_some_iff_getElem.1 hfi).1
              have hfd : fdI cells b (atRun cells b).1 = (k0 : Int) := by unfold fdI; rw [hfi]
              rw [hfd]
              have hnext : atRun cells (b + 1) = ((atRun cells b).1, (atRun cells b).2 ++ [k0]) := atRun_some hfi
              obtain ⟨vb, cap, l, e1, hlo, hblk, hlen, hput⟩ := SlO.byte ho (atSets_get hk0) (show b < 256 by omega)
              rw [atSets_len] at e1
              injection e1 with e2 e3 e4
              subst e2; subst e4
              (conv => whnf); refine VSeq.run ?_
              (conv => whnf); refine ix slF_ (by omega) (by omega) ?_
              (conv => whnf); refine ixa ar112 (by omega) (by omega) ?_
              (conv => whnf); refine st1 ct4 hblk (by rw [show tF.size = 256 from rfl]; omega) rfl ?_
              intro H6 hb6 ha6 hs6
              rw [show 0 + ((k0 : Nat) : Int).toNat * tF.size + ((b : Nat) : Int).toNat * 1 = k0 * 256 + b by rw [show tF.size = 256 from rfl]; omega] at hb6
              have ho6 := hput H6 hb6
              have hput2 := atSets_put (ps := (atRun cells b).2) hk0
              rw [hok.plen] at hput2
              rw [hput2] at ho6
              have hf6 := hf.agr ha6 (fun j hj => by rintro rfl; exact hap _ ⟨0, _, _, rfl⟩ hj) (fun _ f => f.elim)
              (conv => whnf); rw [w64 (x := (b : Int) + 1) (by omega) (by omega)]
              refine ⟨rfl, (b + 1, .slice (some ⟨vb, 0, none⟩) (atRun cells b).1.length ocap, .slice fa (atRun cells b).1.length fcap), by simp, ⟨by simp only; omega, ha2.trans (ha6.mono fun j hj => by unfold Old at hj; omega), by omega, ?_, ?_, hap⟩, by simp only; omega⟩
              · simp only [hnext]; exact ho6
              · simp only [hnext]; exact hf6
    · obtain rfl : b = 256 := by omega
      obtain ⟨oa2, ocap2, e2, hov2, -⟩ := ho.view (S' := Fresh H H2) (fun j hj => ho.lt hj) (fun _ f => f.elim)
      rw [atSets_len] at e2
      injection e2 with e3 e4 e5
      subst e3; subst e5
      (conv => whnf)
      exact ⟨ha2, hs2, _, _, rfl, hov2⟩

end Go.Proofs.YthomdogheamfpaaDoor

/- The document's automata in memory; Parted. -/
set_option linter.unusedVariables false
set_option linter.unusedSimpArgs false
set_option maxRecDepth 100000
namespace Go.Proofs.YthomdogheamfpaaDoor
open Go.VC
attribute [local irreducible] mRun atRun

def dfaL (cell : List Int) (rv nv fv : Value) : List Value := cell.map (Value.int .i64) ++ [rv, nv, fv]
section
variable {cell : List Int} {rv nv fv v : Value}
theorem dfaL_len (h : cell.length = 256) : (dfaL cell rv nv fv).length = 259 := by simp [dfaL, h]
theorem dfaL_at {b : Nat} {c : Int} (h : cell[b]? = some c) : (dfaL cell rv nv fv)[b]? = some (.int .i64 c) := by
  unfold dfaL
  rw [List.getElem?_append_left (by simpa using (List.getElem?_eq_some_iff.1 h).1), List.getElem?_map, h]; rfl
theorem dfaL_256 (h : cell.length = 256) : (dfaL cell rv nv fv)[256]? = some rv := by
  unfold dfaL
  rw [List.getElem?_append_right (by simp [h]), List.length_map, h]; rfl
theorem dfaL_257 (h : cell.length = 256) : (dfaL cell rv nv fv)[257]? = some nv := by
  unfold dfaL
  rw [List.getElem?_append_right (by simp [h]), List.length_map, h]; rfl
theorem dfaL_258 (h : cell.length = 256) : (dfaL cell rv nv fv)[258]? = some fv := by
  unfold dfaL
  rw [List.getElem?_append_right (by simp [h]), List.length_map, h]; rfl
theorem dfaL_put {b : Nat} {c : Int} (h : b < cell.length) : (dfaL cell rv nv fv).set b (.int .i64 c) = dfaL (cell.set b c) rv nv fv := by
  unfold dfaL
  rw [List.set_append_left _ _ (by simpa using h), List.map_set]
theorem dfaL_put256 (h : cell.length = 256) : (dfaL cell rv nv fv).set 256 v = dfaL cell v nv fv := by
  unfold dfaL
  rw [List.set_append_right _ _ (by simp [h]), List.length_map, h]; rfl
theorem dfaL_put257 (h : cell.length = 256) : (dfaL cell rv nv fv).set 257 v = dfaL cell rv v fv := by
  unfold dfaL
  rw [List.set_append_right _ _ (by simp [h]), List.length_map, h]; rfl
theorem dfaL_put258 (h : cell.length = 256) : (dfaL cell rv nv fv).set 258 v = dfaL cell rv nv v := by
  unfold dfaL
  rw [List.set_append_right _ _ (by simp [h]), List.length_map, h]; rfl
theorem dfaL_ones (h1 : rv.oneCell' = true) (h2 : nv.oneCell' = true) (h3 : fv.oneCell' = true) : (dfaL cell rv nv fv).all (·.oneCell') = true := by
  rw [List.all_eq_true]
  intro u hu
  unfold dfaL at hu
  rcases List.mem_append.1 hu with hu | hu
  · obtain ⟨x, -, rfl⟩ := List.mem_map.1 hu
    rfl
  · simp only [List.mem_cons, List.mem_nil_iff, or_false] at hu
    rcases hu with rfl | rfl | rfl
    · exact h1
    · exact h2
    · exact h3
end
/-! ### the cells so far -/
def cellIn (ps : List Nat) (i n : Nat) : List Int := (List.range 256).map fun b => match ps[b]? with
  | some p => if p < i ∨ (p = i ∧ 256 ≤ b + n) then (p : Int) else 0
  | none => 0
def lstAt (ps : List Nat) (i : Nat) : Nat → Int
  | 0 => -1
  | n + 1 => if ps[255 - n]? = some i then ((255 - n : Nat) : Int) else lstAt ps i n
theorem cellIn_len (ps : List Nat) (i n : Nat) : (cellIn ps i n).length = 256 := by simp [cellIn]
theorem cellIn_get (ps : List Nat) (i n : Nat) {b : Nat} (h : b < 256) : (cellIn ps i n)[b]? = some (match ps[b]? with
  | some p => if p < i ∨ (p = i ∧ 256 ≤ b + n) then (p : Int) else 0
  | none => 0) := by
  unfold cellIn
  rw [List.getElem?_map, List.getElem?_range h]; rfl
theorem cellIn_ext {ps : List Nat} {i n j m : Nat} (h : ∀ (b p : Nat), b < 256 → ps[b]? = some p → ((p < i ∨ (p = i ∧ 256 ≤ b + n)) ↔ (p < j ∨ (p = j ∧ 256 ≤ b + m)))) : cellIn ps i n = cellIn ps j m := by
  apply List.ext_getElem?
  intro b
  by_cases hb : b < 256
  · rw [cellIn_get _ _ _ hb, cellIn_get _ _ _ hb]
    cases hp : ps[b]? with
    | none => rfl
    | some p =>
      have := h b p hb hp
      simp only [this]
  · rw [List.getElem?_eq_none (by rw [cellIn_len]; omega), List.getElem?_eq_none (by rw [cellIn_len]; omega)]
theorem cellIn_yes {ps : List Nat} {i n : Nat} (hn : n < 256) (h : ps[255 - n]? = some i) : (cellIn ps i n).set (255 - n) (i : Int) = cellIn ps i (n + 1) := by
  apply List.ext_getElem?
  intro b
  by_cases hb : b < 256
  · rw [cellIn_get _ _ _ hb, List.getElem?_set, cellIn_len]
    by_cases hbn : 255 - n = b
    · subst hbn
      rw [if_pos rfl, if_pos (by omega), h]
      simp only
      rw [if_pos (.inr ⟨trivial, by omega⟩)]
    · rw [if_neg hbn, cellIn_get _ _ _ hb]
      cases hp : ps[b]? with
      | none => rfl
      | some p =>
        have : (256 ≤ b + n) ↔ (256 ≤ b + (n + 1)) := by omega
        simp only [this]
  · rw [List.getElem?_eq_none (by rw [List.length_set, cellIn_len]; omega), List.getElem?_eq_none (by rw [cellIn_len]; omega)]
theorem cellIn_no {ps : List Nat} {i n : Nat} (hn : n < 256) (h : ps[255 - n]? ≠ some i) : cellIn ps i n = cellIn ps i (n + 1) := by
  refine cellIn_ext fun b p hb hp => ?_
  by_cases hbn : b = 255 - n
  · subst hbn
    rw [hp] at h
    have : p ≠ i := fun e => h (by rw [e])
    simp [this]
  · have : (256 ≤ b + n) ↔ (256 ≤ b + (n + 1)) := by omega
    rw [this]
theorem cellIn_next (ps : List Nat) (i : Nat) : cellIn ps i 256 = cellIn ps (i + 1) 0 := by
  refine cellIn_ext fun b p hb hp => ?_
  omega
theorem cellIn_zero (ps : List Nat) : cellIn ps 0 0 = List.replicate 256 0 := by
  apply List.ext_getElem?
  intro b
  by_cases hb : b < 256
  · rw [cellIn_get _ _ _ hb, List.getElem?_replicate, if_pos hb]
    cases hp : ps[b]? with
    | none => rfl
    | some p => simp only; rw [if_neg (by omega)]
  · rw [List.getElem?_eq_none (by rw [cellIn_len]; omega), List.getElem?_eq_none (by simp; omega)]
theorem cellIn_end {ps : List Nat} {n : Nat} (hl : ps.length = 256) (h : ∀ p ∈ ps, p < n) : cellIn ps n 0 = asI ps := by
  apply List.ext_getElem?
  intro b
  by_cases hb : b < 256
  · obtain ⟨p, hp⟩ := get_some (l := ps) (k := b) (by omega)
    rw [cellIn_get _ _ _ hb, asI_get hp, hp]
    simp only
    rw [if_pos (.inl (h p (List.mem_of_getElem? hp)))]
  · rw [List.getElem?_eq_none (by rw [cellIn_len]; omega), List.getElem?_eq_none (by rw [asI_len]; omega)]
theorem lstAt_first {ps : List Nat} {i g : Nat} (hg : g < 256) (h : ps[g]? = some i) (hno : ∀ b, b < g → ps[b]? ≠ some i) : ∀ m, m ≤ g → lstAt ps i (256 - g + m) = (g : Int)
  | 0, _ => by
    rw [Nat.add_zero, show 256 - g = (255 - g) + 1 by omega, lstAt, show 255 - (255 - g) = g by omega, if_pos h]
  | m + 1, hm => by
    have ih := lstAt_first hg h hno m (by omega)
    rw [show 256 - g + (m + 1) = (256 - g + m) + 1 by omega, lstAt, if_neg (hno _ (by omega)), ih]
theorem first_no {cells : List (BitVec 256)} {b : Nat} {f ps : List Nat} (h : AtOk cells b f ps) {i g : Nat} (hg : f[i]? = some g) : ∀ j, j < g → ps[j]? ≠ some i := by
  intro j hj hji
  have := (h.sig j i g hji hg).2
  omega

set_option maxHeartbeats 4000000 in
theorem parted_c (ca : Option Addr) (cc : Nat) (cells : List (BitVec 256)) (S : Nat → Prop) (H : Heap) (hS : ∀ k, S k → k < H.size) (hc : SlD tB S H ca cc cells) (hn : cells.length ≤ 4194304) :
    FnOk Tryd.prog 64 #[.slice ca cells.length cc] H fun v H' => Agr (Old H) H H' ∧ H.size ≤ H'.size ∧ ∃ ra rc, v = .agg (dfaL (asI (atRun cells 256).2) (.slice ra (atRun cells 256).1.length rc) (.slice none 0 0) (.slice none 0 0)).toArray ∧
      SlD tI (Fresh H H') H' ra rc (asI (atRun cells 256).1) := by
  have hok := atRun_ok cells 256
  have hfl := hok.flen
  refine FnOk.of_vc Tryd.func64 rfl (Tryd.call64 _) ?_
  (conv => whnf); refine valloc _ (dfaL (List.replicate 256 0) (.slice none 0 0) (.slice none 0 0) (.slice none 0 0)) rfl (by kernel_rfl) ?_
  intro p1 H1 hp1 hs1 hb1 ha1
  (conv => whnf); refine valloc _ (dfaL (List.replicate 256 0) (.slice none 0 0) (.slice none 0 0) (.slice none 0 0)) rfl (by kernel_rfl) ?_
  intro p2 H2 hp2 hs2 hb2 ha2
  have hA2 : Agr (Old H) H H2 := (ha1.mono fun j hj => by unfold Old at hj; omega).trans (ha2.mono fun j hj => by unfold Old at hj; omega)
  (conv => whnf); refine VCall.mk (atoms_c ca cc cells S H2 (fun k hk => old_lt hA2 (hS k hk)) (hc.frame (hA2.mono hS)) hn) ?_
  rintro v3 H3 ⟨ha3, hs3, aa, ac, rfl, hat⟩
  have hA3 := hA2.trans (ha3.mono fun k hk => old_lt hA2 hk)
  have hb13 := (hb1.agr ha2 (show p1 < p2 by omega)).agr ha3 (show p1 < H2.size by omega)
  have hb23 := hb2.agr ha3 (show p2 < H2.size by omega)
  generalize hfeq : (atRun cells 256).1 = f at *
  generalize hpeq : (atRun cells 256).2 = ps at *
  (conv => whnf)
  refine VLoop.mk [5] (fun i : Nat => [.int .i64 i]) (fun i H4 => i ≤ f.length ∧ Agr (fun j => j < H3.size ∧ j ≠ p2) H3 H4 ∧ H3.size ≤ H4.size ∧ ∃ vr, Blk H4 p2 35 (dfaL (cellIn ps i 0) vr (.slice none 0 0) (.slice none 0 0)) ∧ SlO tI (fun _ => False) H4 H3.size 3 vr (asI (f.take i))) (fun i _ => f.length - i) ?_ ?_
  · (conv => whnf)
    exact ⟨0, rfl, by omega, Agr.refl _ _, Nat.le_refl _, .slice none 0 0, by rw [cellIn_zero]; exact hb23, by rw [List.take_zero]; exact SlO.nil⟩
  · rintro i H4 junk ⟨hi, ha4, hs4, vr, hb4, hr4⟩
    (conv => whnf); refine VIte.mk (fun h => ?_) (fun h => ?_) <;> simp only [decide_eq_true_eq, decide_eq_false_iff_not] at h
    · have hil : i < f.length := by omega
      obtain ⟨g, hg⟩ := get_some hil
      have hati : ∀ {H' : Heap}, Agr (fun j => j < H3.size ∧ j ≠ p2) H3 H' → SlD tF (Fresh H2 H3) H' aa ac (atSets ps f.length) := fun h => hat.frame (h.mono fun k hk => by have := hk.1; exact ⟨hk.2, by omega⟩)
      (conv => whnf)
      refine VLoop.mk [6, 7] (fun n : Nat => [.int .i64 (lstAt ps i n), .int .i64 (255 - (n : Int))]) (fun n H5 => n ≤ 256 ∧ Agr (fun j => j ≠ p2) H4 H5 ∧ H4.size = H5.size ∧ Blk H5 p2 35 (dfaL (cellIn ps i n) vr (.slice none 0 0) (.slice none 0 0))) (fun n _ => 256 - n) ?_ ?_
      · (conv => whnf); exact ⟨0, rfl, by omega, Agr.refl _ _, rfl, hb4⟩
      · rintro n H5 junk5 ⟨hn5, ha5, hs5, hb5⟩
        (conv => whnf); refine VIte.mk (fun h => ?_) (fun h => ?_) <;> simp only [decide_eq_true_eq, decide_eq_false_iff_not] at h
        · have hn256 : n < 256 := by omega
          (conv => whnf); refine VSeq.run ?_
          (conv => whnf); refine ixrn slF_ (hati (ha4.trans (ha5.mono fun j hj => hj.2))) (atSets_len _ _).symm (atSets_get hil) rfl ?_
          rintro b6 o6 cs6 hSb6 hcells6 rfl
          (conv => whnf); refine ixa ar112 (by omega) (by omega) ?_
          (conv => whnf); refine ld1 (v := .bool (atSet ps i (255 - n))) ct4 (by rw [show o6 + (255 - (n : Int)).toNat * 1 = o6 + (255 - n) by omega]; exact hcells6 (255 - n) _ (funL_get _ (by omega))) trivial ?_
          (conv => whnf); refine VIte.mk (fun hbit => ?_) (fun hbit => ?_)
          · have hpi : ps[255 - n]? = some i := by simpa [atSet] using hbit
            (conv => whnf); refine VC.fa fl35_0 ?_
            (conv => whnf); refine ixa ar32 (by omega) (by omega) ?_
            (conv => whnf); refine st1 ct3 hb5 (by rw [dfaL_len (cellIn_len _ _ _)]; omega) rfl ?_
            intro H6 hb6 ha6 hs6
            rw [show 0 + 0 + (255 - (n : Int)).toNat * 1 = 255 - n by omega, dfaL_put (by rw [cellIn_len]; omega), cellIn_yes hn256 hpi] at hb6
            (conv => whnf); rw [w64 (x := 255 - (n : Int) - 1) (by omega) (by omega)]
            refine ⟨rfl, n + 1, ?_, ⟨by omega, ha5.trans (ha6.mono fun j hj => hj), by omega, hb6⟩, by omega⟩
            rw [lstAt, if_pos hpi, show ((255 - n : Nat) : Int) = 255 - (n : Int) by omega, show 255 - ((n + 1 : Nat) : Int) = 255 - (n : Int) - 1 by omega]
          · have hpi : ps[255 - n]? ≠ some i := by simpa [atSet] using hbit
            rw [cellIn_no hn256 hpi] at hb5
            (conv => whnf); rw [w64 (x := 255 - (n : Int) - 1) (by omega) (by omega)]
            refine ⟨rfl, n + 1, ?_, ⟨by omega, ha5, by omega, hb5⟩, by omega⟩
            rw [lstAt, if_neg hpi, show 255 - ((n + 1 : Nat) : Int) = 255 - (n : Int) - 1 by omega]
        · obtain rfl : n = 256 := by omega
          have hg256 := (hok.first i g hg).1
          have hlst : lstAt ps i 256 = (g : Int) := by
            have := lstAt_first hg256 (hok.first i g hg).2 (first_no hok hg) g (Nat.le_refl _)
            rwa [show 256 - g + g = 256 by omega] at this
          rw [hlst, cellIn_next] at *
          have hr5 := hr4.agr ha5 (fun j hj => by have := (hr4.lt hj).1; omega) (fun _ f => f.elim)
          (conv => whnf); refine VC.fa fl35_1 ?_
          (conv => whnf); refine ld1 ct33 (by rw [hb5.cell, Nat.zero_add]; exact dfaL_256 (cellIn_len _ _ _)) trivial ?_
          (conv => whnf); refine vbuild1 sl33 [.int .i64 (g : Int)] rfl rfl (by decide) (by decide) ?_
          intro q6 H6 hq6 hs6 hb6 ha6
          have hr6 := hr5.agr ha6 (fun j hj => by have := (hr5.lt hj).2; omega) (fun _ f => f.elim)
          have hb56 := hb5.agr ha6 (show p2 < q6 by have := hb5.lt; omega)
          have hp2 := hb56.lt
          (conv => whnf); refine vappendO (T := tI) (S := fun _ => False) (ys := [(g : Int)]) (ds := [.int .i64 (g : Int)]) (lo := H3.size) (xs := asI (f.take i)) sl33 hr6 (by omega) (fun j hj => hj.elim)
              (hb6.cells (fun j v hv => by simpa using hv)) (Ty.reps_one ⟨rfl, inI64 (by omega)⟩) rfl (by intro u hu; cases List.mem_singleton.1 hu; rfl) (by rw [asI_len]; simp only [maxLen, List.length_singleton, List.length_take]; omega) (by rw [asI_len]; simp only [List.length_singleton, List.length_take]; omega) ?_
          intro v7 H7 hr7 ha7 hs7 hfr7
          have hb7 := hb56.agr ha7 ⟨hp2, fun hb => by have := (hr6.lt hb).1; omega⟩
          (conv => whnf); refine VC.fa fl35_1 ?_
          (conv => whnf); refine st1 ct33 hb7 (by rw [dfaL_len (cellIn_len _ _ _)]; omega) hr7.one ?_
          intro H8 hb8 ha8 hs8
          rw [Nat.zero_add, dfaL_put256 (cellIn_len _ _ _)] at hb8
          have hr8 := hr7.agr ha8 (fun j hj => by have := (hr7.lt hj).1; omega) (fun _ f => f.elim)
          (conv => whnf); rw [w64 (x := (i : Int) + 1) (by omega) (by omega)]
          refine ⟨rfl, i + 1, by simp, ⟨by omega, ?_, by omega, v7, hb8, ?_⟩, by omega⟩
          · exact (((ha4.trans (ha5.mono fun j hj => hj.2)).trans (ha6.mono fun j hj => by omega)).trans (ha7.mono fun j hj => ⟨by omega, fun hb => by have := (hr6.lt hb).1; omega⟩)).trans (ha8.mono fun j hj => hj.2)
          · rw [take_succ_snoc hg]
            unfold asI at hr8 ⊢
            rw [List.map_append]; exact hr8
    · obtain rfl : i = f.length := by omega
      rw [cellIn_end hok.plen hok.lt] at hb4
      rw [List.take_length] at hr4
      have hA4 : Agr (Old H) H H4 := hA3.trans (ha4.mono fun j hj => by have := old_lt hA3 hj; unfold Old at hj; omega)
      obtain ⟨ra, rc, rfl, hrv, -⟩ := hr4.view (S' := fun j => H3.size ≤ j ∧ j < H4.size) (fun j hj => hr4.lt hj) (fun _ f => f.elim)
      rw [asI_len] at hb4
      have hpl : (asI ps).length = 256 := by rw [asI_len, hok.plen]
      have hl259 : (dfaL (asI ps) (.slice ra f.length rc) (.slice none 0 0) (.slice none 0 0)).length = 259 := dfaL_len hpl
      (conv => whnf); refine ldN (cs := dfaL (asI ps) (.slice ra f.length rc) (.slice none 0 0) (.slice none 0 0)) (by rw [hl259]; exact ag35) (hb4.cells fun j v hv => by rw [Nat.zero_add]; exact hv) trivial ?_
      (conv => whnf); refine VC.stN (cs := dfaL (asI ps) (.slice ra f.length rc) (.slice none 0 0) (.slice none 0 0)) (by rw [hl259]; rfl) (hb13.agr ha4 ⟨by omega, by omega⟩) (Nat.le_of_eq (by rw [hl259, dfaL_len (by simp)])) (dfaL_ones rfl rfl rfl) ?_
      intro H6 hb6 ha6 hs6
      rw [splice_all (by rw [hl259, dfaL_len (by simp)])] at hb6
      (conv => whnf); refine ldN (cs := dfaL (asI ps) (.slice ra f.length rc) (.slice none 0 0) (.slice none 0 0)) (by rw [hl259]; exact ag35) (hb6.cells fun j v hv => by rw [Nat.zero_add]; exact hv) trivial ?_
      exact ⟨hA4.trans (ha6.mono fun j hj => by unfold Old at hj; omega), by omega, ra, rc, rfl, (hrv.frame (ha6.mono fun j hj => by omega)).mono fun j hj => by unfold Fresh at *; omega⟩

end Go.Proofs.YthomdogheamfpaaDoor
/- The law DfaLives: its walk. -/
set_option linter.unusedVariables false
set_option linter.unusedSimpArgs false
set_option maxRecDepth 100000
namespace Go.Proofs.YthomdogheamfpaaDoor
open Go.VC
attribute [local irreducible] mRun

def autoOf (cells : List (BitVec 256)) (next : List (List Int)) (final : List Bool) : Option AM := if soundB cells next final.length then some (madeM cells next final) else none
/-- What a table that is handed in says of memory. -/
structure TabIn (S : Nat → Prop) (H : Heap) (v : Value) (cells : List (BitVec 256)) (next : List (List Int)) (final : List Bool) : Prop where
  lt : ∀ k, S k → k < H.size
  rep : ∃ ca na fa cc nc fc, v = .agg #[.slice ca cells.length cc, .slice na next.length nc, .slice fa final.length fc] ∧ SlD tSet S H ca cc cells ∧ SlD tRows S H na nc next ∧ SlD tBool S H fa fc final
  cn : cells.length ≤ 1048576
  nn : next.length ≤ 1048576
  rn : ∀ row ∈ next, row.length ≤ 1048576
  fn : final.length ≤ 1048576
theorem vcall_new {cells : List (BitVec 256)} {next : List (List Int)} {final : List Bool} {S : Nat → Prop} {H : Heap} {K : Value → Heap → Prop} {ca na fa : Option Addr} {cc nc fc : Nat} (hS : ∀ k, S k → k < H.size)
    (hc : SlD tSet S H ca cc cells) (hn : SlD tRows S H na nc next) (hf : SlD tBool S H fa fc final)
    (h : ∀ v H', Agr (Old H) H H' → H.size ≤ H'.size → AutoV (Fresh H H') H' v (autoOf cells next final) → K v H') :
    VCall Tryd.prog 44 #[.slice ca cells.length cc, .slice na next.length nc, .slice fa final.length fc] H K :=
  VCall.mk (new_c ca na fa cc nc fc cells next final S H hS hc hn hf) fun v H' ⟨h1, h2, h3⟩ => h v H' h1 h2 h3
theorem vcall_newO {cells : List (BitVec 256)} {next : List (List Int)} {final : List Bool} {H : Heap} {K : Value → Heap → Prop} {nb lo1 lo2 : Nat} {v1 v3 : Value} {vs : List Value}
    (h1 : SlO tSet (fun _ => False) H lo1 73 v1 cells) (h2 : Tab tI (fun _ => False) H (nb + 1) 3 nb 33 vs next) (h3 : SlO tBool (fun _ => False) H lo2 4 v3 final)
    (hm : next.length ≤ maxLen)
    (h : ∀ v H', Agr (Old H) H H' → H.size ≤ H'.size → AutoV (Fresh H H') H' v (autoOf cells next final) → K v H') :
    VCall Tryd.prog 44 #[v1, .slice (some ⟨nb, 0, none⟩) next.length next.length, v3] H K := by
  obtain ⟨ca, cc, rfl, hc, -⟩ := h1.view (S' := Old H) (fun k hk => (h1.lt hk).2) (fun k hk => hk.elim)
  obtain ⟨fa, fc, rfl, hf, -⟩ := h3.view (S' := Old H) (fun k hk => (h3.lt hk).2) (fun k hk => hk.elim)
  exact vcall_new (S := Old H) (fun k hk => hk) hc (h2.view rfl hm (fun k _ hk => hk) (fun k hk => hk.elim)) hf h
theorem ends_c {fa : Option Addr} {fc : Nat} {final : List Bool} {S : Nat → Prop} {H : Heap} {K : Value → Heap → Prop} {q : Nat} (hq : Blk H q 4 []) (hS : ∀ k, S k → k < H.size ∧ k ≠ q) (hf : SlD tBool S H fa fc final) (hn : final.length ≤ 4194304)
    (h : ∀ v H', SlO tBool (fun _ => False) H' q 4 v final → Agr (fun k => k < H.size ∧ k ≠ q) H H' → H.size ≤ H'.size → K v H') :
    VEff Tryd.prog (Builtin.append_ #[24, 24] 24 [.slice (some ⟨q, 0, none⟩) 0 0, .slice fa final.length fc].toArray) H K := by
  have hqb : ∀ j, slB (.slice (some ⟨q, 0, none⟩) 0 0) j → j = q := by rintro j ⟨o, n, c, e⟩; cases e; rfl
  refine vappendD (T := tBool) (S := S) (lo := q) (xs := []) sl24 tBool_ones (SlO.empty (Nat.le_refl _) hq) (Nat.le_of_lt hq.lt) (fun j hj => ⟨(hS j hj).1, fun hb => (hS j hj).2 (hqb j hb)⟩) hf (by simp only [maxLen, List.length_nil]; omega) (by simp only [List.length_nil]; omega) ?_
  intro v H' h1 h2 h3 h4
  rw [List.nil_append] at h1
  exact h v H' (h1.free tBool_free) (h2.mono fun j hj => ⟨hj.1, fun hb => hj.2 (hqb j hb)⟩) h3

/-! ### the plain law -/
section
open Classical
end
end Go.Proofs.YthomdogheamfpaaDoor
/- The document's automata as data; its New. -/
set_option linter.unusedVariables false
set_option linter.unusedSimpArgs false
set_option maxRecDepth 100000
namespace Go.Proofs.YthomdogheamfpaaDoor
open Go.VC
attribute [local irreducible] mRun atRun

structure DM where
  cell : List Int
  reps : List Int
  next : List (List Int)
  final : List Bool
structure DfaV (S : Nat → Prop) (H : Heap) (v : Value) (D : DM) : Prop where
  len : D.cell.length = 256
  rep : ∃ ra rc na nc fa fc, v = .agg (dfaL D.cell (.slice ra D.reps.length rc) (.slice na D.next.length nc) (.slice fa D.final.length fc)).toArray ∧ SlD tI S H ra rc D.reps ∧ SlD tRows S H na nc D.next ∧ SlD tBool S H fa fc D.final
theorem DfaV.frame {S : Nat → Prop} {H H' : Heap} {v : Value} {D : DM} (h : DfaV S H v D) (k : Agr S H H') : DfaV S H' v D := by
  obtain ⟨hl, ra, rc, na, nc, fa, fc, e, h1, h2, h3⟩ := h
  exact ⟨hl, ra, rc, na, nc, fa, fc, e, h1.frame k, h2.frame k, h3.frame k⟩
theorem DfaV.mono {S S' : Nat → Prop} {H : Heap} {v : Value} {D : DM} (h : DfaV S H v D) (k : ∀ i, S i → S' i) : DfaV S' H v D := by
  obtain ⟨hl, ra, rc, na, nc, fa, fc, e, h1, h2, h3⟩ := h
  exact ⟨hl, ra, rc, na, nc, fa, fc, e, h1.mono k, h2.mono k, h3.mono k⟩
def rowR (cells : List (BitVec 256)) (f : List Nat) (row : List Int) : List Int := f.map fun r => row.getD (cellOf cells r) 0
def madeD (cells : List (BitVec 256)) (next : List (List Int)) (final : List Bool) : DM :=
  ⟨asI (atRun cells 256).2, asI (atRun cells 256).1, next.map (rowR cells (atRun cells 256).1), final⟩
def noneD : DM := ⟨List.replicate 256 0, [0], [[0]], [false]⟩

theorem set_same {α : Type} {l : List α} {k : Nat} {x : α} (h : l[k]? = some x) : l.set k x = l := by
  obtain ⟨h1, rfl⟩ := List.getElem?_eq_some_iff.1 h
  exact List.set_getElem_self h1
theorem cntTo_mono (cells : List (BitVec 256)) (b : Nat) {c d : Nat} (h : c ≤ d) : cntTo cells c b ≤ cntTo cells d b := by
  unfold cntTo
  exact List.Sublist.length_le (List.Sublist.filter _ (List.take_sublist_take_left h))
theorem cell_unique {cells : List (BitVec 256)} {next : List (List Int)} {fl : Nat} (h : soundB cells next fl = true) {b c : Nat} {x : BitVec 256} (hb : b < 256) (hx : cells[c]? = some x) : x.getLsbD b = decide (cellOf cells b = c) := by
  have h1 := soundB_cells h hb
  have hcnt := (soundB_iff.1 h).2.1 b hb
  by_cases he : cellOf cells b = c
  · rw [decide_eq_true he]; exact h1.2 x (by rw [he]; exact hx)
  · rw [decide_eq_false he]
    rcases Nat.lt_or_ge c (cellOf cells b) with hlt | hge
    · exact cellOf_before hlt hx
    · cases hbit : x.getLsbD b with
      | false => rfl
      | true =>
        obtain ⟨y, hy⟩ := get_some h1.1
        have hyb := h1.2 y hy
        have e1 := cntTo_succ (b := b) hy
        have e2 := cntTo_succ (b := b) hx
        have e3 := cntTo_mono cells b (show cellOf cells b + 1 ≤ c by omega)
        have e4 := cntTo_mono cells b (show c + 1 ≤ cells.length by have := (List.getElem?_eq_some_iff.1 hx).1; omega)
        rw [cntTo_all] at e4
        unfold ind at e1 e2
        rw [hyb, if_pos rfl] at e1
        rw [hbit, if_pos rfl] at e2
        omega
theorem rowR_len (cells : List (BitVec 256)) (f : List Nat) (row : List Int) : (rowR cells f row).length = f.length := by simp [rowR]

set_option maxHeartbeats 8000000 in
theorem refnew_c (ca na fa : Option Addr) (cc nc fc : Nat) (cells : List (BitVec 256)) (next : List (List Int)) (final : List Bool) (S : Nat → Prop) (H : Heap) (hS : ∀ k, S k → k < H.size) (hc : SlD tB S H ca cc cells) (hn : SlD tRows S H na nc next) (hf : SlD tBool S H fa fc final)
    (hcn : cells.length ≤ 4194304) (hsound : soundB cells next final.length = true) :
    FnOk Tryd.prog 50 #[.slice ca cells.length cc, .slice na next.length nc, .slice fa final.length fc] H fun v H' => Agr (Old H) H H' ∧ H.size ≤ H'.size ∧ DfaV (Fresh H H') H' v (madeD cells next final) := by
  have hok := atRun_ok cells 256
  have hfl := hok.flen
  obtain ⟨hn1, hn2, hn3, hrows⟩ := soundB_rows hsound
  refine FnOk.of_vc Tryd.func50 rfl (Tryd.call50 _) ?_
  (conv => whnf); refine valloc _ (dfaL (List.replicate 256 0) (.slice none 0 0) (.slice none 0 0) (.slice none 0 0)) rfl (by kernel_rfl) ?_
  intro p1 H1 hp1 hs1 hb1 ha1
  have hA1 : Agr (Old H) H H1 := ha1.mono fun j hj => by unfold Old at hj; omega
  (conv => whnf); refine VCall.mk (parted_c ca cc cells S H1 (fun k hk => old_lt hA1 (hS k hk)) (hc.frame (hA1.mono hS)) hcn) ?_
  rintro v2 H2 ⟨ha2, hs2, ra, rc, rfl, hr⟩
  have hA2 := hA1.trans (ha2.mono fun k hk => old_lt hA1 hk)
  have hb12 := hb1.agr ha2 (show p1 < H1.size by omega)
  have hok2 : ∀ g ∈ (atRun cells 256).1, g < 256 := fun g hg => by obtain ⟨i, hi⟩ := List.getElem?_of_mem hg; exact (hok.first i g hi).1
  generalize hfeq : (atRun cells 256).1 = f at *
  have hpl : (asI (atRun cells 256).2).length = 256 := by rw [asI_len, hok.plen]
  generalize hpeq : asI (atRun cells 256).2 = ps at *
  have hl259 : ∀ nv fv, (dfaL ps (.slice ra f.length rc) nv fv).length = 259 := fun nv fv => dfaL_len hpl
  (conv => whnf); refine valloc _ (dfaL (List.replicate 256 0) (.slice none 0 0) (.slice none 0 0) (.slice none 0 0)) rfl (by kernel_rfl) ?_
  intro p3 H3 hp3 hs3 hb3 ha3
  (conv => whnf); refine VC.stN (cs := dfaL ps (.slice ra f.length rc) (.slice none 0 0) (.slice none 0 0)) (by rw [hl259]; rfl) hb3 (Nat.le_of_eq (by rw [hl259, dfaL_len (by simp)])) (dfaL_ones rfl rfl rfl) ?_
  intro H4 hb4 ha4 hs4
  rw [splice_all (by rw [hl259, dfaL_len (by simp)])] at hb4
  have hA4 : Agr (Old H) H H4 := (hA2.trans (ha3.mono fun k hk => by have := old_lt hA2 hk; omega)).trans (ha4.mono fun k hk => by have := old_lt hA2 hk; omega)
  have h24 : Agr (fun j => j < H2.size) H2 H4 := (ha3.mono fun j hj => by omega).trans (ha4.mono fun j hj => by omega)
  have hb14 := hb12.agr h24 (show p1 < H2.size by omega)
  have hr4 : SlD tI (fun j => H1.size ≤ j ∧ j < H2.size) H4 ra rc (asI f) := hr.frame (h24.mono fun j hj => hj.2)
  have hnn : next.length ≤ 65536 := hn2
  (conv => whnf)
  refine VLoop.mk [8] (fun q : Nat => [.int .i64 q]) (fun q H5 => q ≤ next.length ∧ Agr (fun j => j < H4.size ∧ j ≠ p3) H4 H5 ∧ H4.size ≤ H5.size ∧ ∃ vn vf Sr, Blk H5 p3 35 (dfaL ps (.slice ra f.length rc) vn vf) ∧
    SlO tRows Sr H5 H4.size 33 vn ((next.map (rowR cells f)).take q) ∧ SlO tBool (fun _ => False) H5 H4.size 4 vf (final.take q) ∧ (∀ j, Sr j → H4.size ≤ j ∧ j < H5.size ∧ ¬ slB vn j ∧ ¬ slB vf j) ∧ (∀ j, slB vn j → ¬ slB vf j)) (fun q _ => next.length - q) ?_ ?_
  · (conv => whnf)
    exact ⟨0, rfl, by omega, Agr.refl _ _, Nat.le_refl _, .slice none 0 0, .slice none 0 0, fun _ => False, hb4, by rw [List.take_zero]; exact SlO.nil, by rw [List.take_zero]; exact SlO.nil, fun _ f => f.elim, fun j hj => by obtain ⟨o, n, c, h⟩ := hj; cases h⟩
  · rintro q H5 junk ⟨hq, ha5, hs5, vn, vf, Sr, hb5, hvn, hvf, hSr, hap⟩
    have hp34 : p3 < H4.size := hb4.lt
    have hA5 : Agr (Old H) H H5 := hA4.trans (ha5.mono fun j hj => ⟨old_lt hA4 hj, by have := old_lt hA2 hj; omega⟩)
    (conv => whnf); refine VIte.mk (fun h => ?_) (fun h => ?_) <;> simp only [decide_eq_true_eq, decide_eq_false_iff_not] at h
    · obtain ⟨row, hrow⟩ := get_some (l := next) (k := q) (by omega)
      obtain ⟨fin, hfin⟩ := get_some (l := final) (k := q) (by omega)
      have hrl := (hrows row (List.mem_of_getElem? hrow)).1
      have hin : ∀ {r : Nat}, r ∈ f → (∃ t, row[cellOf cells r]? = some t ∧ row.getD (cellOf cells r) 0 = t ∧ 0 ≤ t ∧ t < 65536) := fun {r} hr => by
        have h1 := (soundB_cells hsound (hok2 r hr)).1
        obtain ⟨t, ht⟩ := get_some (l := row) (k := cellOf cells r) (by omega)
        have h2 := (hrows row (List.mem_of_getElem? hrow)).2 t (List.mem_of_getElem? ht)
        exact ⟨t, ht, by rw [List.getD_eq_getElem?_getD, ht]; rfl, h2.1, by omega⟩
      (conv => whnf); refine VC.fa fl35_1 ?_
      (conv => whnf); refine ld1 (v := .slice ra f.length rc) ct33 (by rw [hb5.cell, Nat.zero_add]; exact dfaL_256 hpl) trivial ?_
      (conv => whnf); refine vmake1 sl33 rfl (by omega) (by omega) (by omega) (by omega) ?_
      intro rb H6 hrb hs6 hb6 ha6
      rw [Int.toNat_natCast] at hb6
      have hrow0 : SlO tI (fun _ => False) H6 H5.size 3 (.slice (some ⟨rb, 0, none⟩) f.length f.length) ((rowR cells f row).take 0 ++ List.replicate ((rowR cells f row).length - 0) 0) := by
        rw [fill_beg, rowR_len]
        exact SlO.made (T := tI) (v := (0 : Int)) (c := [.int .i64 0]) (by omega) (by simpa using hb6) ⟨rfl, inI64 (x := 0) (by decide)⟩ (by unfold maxLen; omega)
      have hb56 := hb5.agr ha6 (show p3 < rb by omega)
      (conv => whnf)
      refine VLoop.mk [10] (fun k : Nat => [.int .i64 k]) (fun k H7 => k ≤ f.length ∧ Agr (fun j => j ≠ rb) H6 H7 ∧ H7.size = H6.size ∧ SlO tI (fun _ => False) H7 H5.size 3 (.slice (some ⟨rb, 0, none⟩) f.length f.length) ((rowR cells f row).take k ++ List.replicate ((rowR cells f row).length - k) 0)) (fun k _ => f.length - k) ?_ ?_
      · (conv => whnf); exact ⟨0, rfl, by omega, Agr.refl _ _, rfl, hrow0⟩
      · rintro k H7 junk7 ⟨hk, ha7, hs7, hrow7⟩
        have hb57 := hb56.agr ha7 (show p3 ≠ rb by omega)
        have hA7 : Agr (Old H) H H7 := (hA5.trans (ha6.mono fun j hj => by have := old_lt hA5 hj; omega)).trans (ha7.mono fun j hj => by have := old_lt hA5 hj; omega)
        have h47 : Agr (fun j => j < H4.size ∧ j ≠ p3) H4 H7 := (ha5.trans (ha6.mono fun j hj => by omega)).trans (ha7.mono fun j hj => by omega)
        have hrl' := rowR_len cells f row
        (conv => whnf); refine VC.fa fl35_1 ?_
        (conv => whnf); refine ld1 (v := .slice ra f.length rc) ct33 (by rw [hb57.cell, Nat.zero_add]; exact dfaL_256 hpl) trivial ?_
        (conv => whnf); refine VIte.mk (fun h => ?_) (fun h => ?_) <;> simp only [decide_eq_true_eq, decide_eq_false_iff_not] at h
        · obtain ⟨r, hrk⟩ := get_some (l := f) (k := k) (by omega)
          have hr256 := hok2 r (List.mem_of_getElem? hrk)
          obtain ⟨t, ht, htD, ht0, ht1⟩ := hin (List.mem_of_getElem? hrk)
          have hgetR : (rowR cells f row)[k]? = some t := by unfold rowR; rw [List.getElem?_map, hrk]; exact congrArg some htD
          have hcl := (soundB_cells hsound hr256).1
          (conv => whnf)
          refine VLoop.mk [11] (fun c : Nat => [.int .i64 c]) (fun c H8 => c ≤ cells.length ∧ Agr (fun j => j ≠ rb) H7 H8 ∧ H8.size = H7.size ∧ SlO tI (fun _ => False) H8 H5.size 3 (.slice (some ⟨rb, 0, none⟩) f.length f.length)
            (((rowR cells f row).take k ++ List.replicate ((rowR cells f row).length - k) 0).set k (if cellOf cells r < c then t else 0))) (fun c _ => cells.length - c) ?_ ?_
          · (conv => whnf)
            refine ⟨0, rfl, by omega, Agr.refl _ _, rfl, ?_⟩
            rw [if_neg (by omega)]
            have hself := set_same (fill_get (l := rowR cells f row) (z := (0 : Int)) (show k < (rowR cells f row).length by omega))
            rw [hself]; exact hrow7
          · rintro c H8 junk8 ⟨hcn8, ha8, hs8, hrow8⟩
            have hb58 := hb57.agr ha8 (show p3 ≠ rb by omega)
            have hA8 : Agr (Old H) H H8 := hA7.trans (ha8.mono fun j hj => by have := old_lt hA5 hj; omega)
            have hr8 : SlD tI (fun j => H1.size ≤ j ∧ j < H2.size) H8 ra rc (asI f) := hr4.frame ((h47.trans (ha8.mono fun j hj => by omega)).mono fun j hj => by omega)
            (conv => whnf); refine VIte.mk (fun h => ?_) (fun h => ?_) <;> simp only [decide_eq_true_eq, decide_eq_false_iff_not] at h
            · obtain ⟨x, hx⟩ := get_some (l := cells) (k := c) (by omega)
              have huniq := cell_unique hsound hr256 hx
              (conv => whnf); refine VSeq.run ?_
              (conv => whnf); refine VDraw.lex rfl (by kernel_rfl) ?_
              (conv => whnf); refine VC.fa fl35_1 ?_
              (conv => whnf); refine ld1 (v := .slice ra f.length rc) ct33 (by rw [hb58.cell, Nat.zero_add]; exact dfaL_256 hpl) trivial ?_
              (conv => whnf); refine ixrn sl33 hr8 (asI_len _).symm (asI_get hrk) rfl ?_
              rintro b6 o6 cs6 hSb6 hcells6 ⟨rfl, -⟩
              (conv => whnf); refine ld1 ct3 hcells6.one trivial ?_
              (conv => whnf); refine ixr slB_ (hc.frame (hA8.mono hS)) hx rfl ?_
              rintro b7 o7 cs7 hSb7 hcells7 rfl
              (conv => whnf); refine ixa ar112 (by omega) (by omega) ?_
              (conv => whnf); refine ld1 (v := .bool (x.getLsbD r)) ct4 (by rw [show o7 + ((r : Nat) : Int).toNat * 1 = o7 + r by omega]; exact hcells7 r _ (bitsL_get x hr256)) trivial ?_
              rw [huniq]
              (conv => whnf); refine VIte.mk (fun hbit => ?_) (fun hbit => ?_) <;> simp only [decide_eq_true_eq, decide_eq_false_iff_not] at hbit
              · subst hbit
                obtain ⟨-, -, -, l9, hblk9, hlen9, -, hput9⟩ := hrow8.placeS (i := k) (by rw [List.length_set, fill_len (by omega)]; omega)
                have hsz : k * tI.size = k := Nat.mul_one k
                have hsz1 : tI.size = 1 := rfl
                (conv => whnf); refine ixr sl23 (hn.frame (hA8.mono hS)) hrow rfl ?_
                rintro b9 o9 cs9 hSb9 hcells9 ⟨xa, xc, rfl, hxr⟩
                (conv => whnf); refine ld1 ct33 hcells9.one trivial ?_
                (conv => whnf); refine ixr sl33 hxr ht rfl ?_
                rintro b10 o10 cs10 hSb10 hcells10 ⟨rfl, -⟩
                (conv => whnf); refine ld1 ct3 hcells10.one trivial ?_
                (conv => whnf); refine ix sl33 (by omega) (by omega) ?_
                (conv => whnf); refine st1 ct3 hblk9 (by omega) rfl ?_
                intro H10 hb10 ha10 hs10
                rw [show 0 + ((k : Nat) : Int).toNat * 1 = k * tI.size by show 0 + ((k : Nat) : Int).toNat * 1 = k * 1; omega] at hb10
                have hrow10 := hput9 H10 [.int .i64 t] t (by rw [← splice_one (show k * tI.size < l9.length by omega)] at hb10; exact hb10) (fun j hj => hj.elim) ⟨rfl, by show (-9223372036854775808 : Int) ≤ t; omega, by show t ≤ (9223372036854775807 : Int); omega⟩
                rw [List.set_set] at hrow10
                (conv => whnf); rw [w64 (x := (cellOf cells r : Int) + 1) (by omega) (by omega)]
                exact ⟨rfl, cellOf cells r + 1, by simp, ⟨by omega, ha8.trans (ha10.mono fun j hj => hj), by omega, by rw [if_pos (by omega)]; exact hrow10⟩, by omega⟩
              · (conv => whnf); rw [w64 (x := (c : Int) + 1) (by omega) (by omega)]
                refine ⟨rfl, c + 1, by simp, ⟨by omega, ha8, by omega, ?_⟩, by omega⟩
                have : (cellOf cells r < c + 1) ↔ (cellOf cells r < c) := by omega
                simp only [this]
                exact hrow8
            · rw [if_pos (by omega), fill_set hgetR] at hrow8
              (conv => whnf); rw [w64 (x := (k : Int) + 1) (by omega) (by omega)]
              exact ⟨rfl, k + 1, by simp, ⟨by omega, ha7.trans ha8, by omega, hrow8⟩, by omega⟩
        · obtain rfl : k = f.length := by omega
          have hfe := fill_end (l := rowR cells f row) (z := (0 : Int))
          rw [hrl'] at hfe hrow7
          rw [hfe] at hrow7
          have hvn7 : SlO tRows Sr H7 H4.size 33 vn ((next.map (rowR cells f)).take q) := (hvn.agr ha6 (S' := fun j => j < rb) (fun j hj => by have := (hvn.lt hj).2; omega) (fun j hj => by have := hSr j hj; omega)).agr (S' := fun j => j ≠ rb) ha7 (fun j hj => by have := (hvn.lt hj).2; omega) (fun j hj => by have := hSr j hj; omega)
          have hvf7 := (hvf.agr ha6 (fun j hj => by have := (hvf.lt hj).2; omega) (fun _ f => f.elim)).agr ha7 (fun j hj => by have := (hvf.lt hj).2; omega) (fun _ f => f.elim)
          obtain ⟨xa, xcap, e1, hxd, -⟩ := hrow7.view (S' := fun j => j = rb) (fun j hj => by obtain ⟨o, n, c, e⟩ := hj; cases e; rfl) (fun _ f => f.elim)
          injection e1 with e2 e3 e4
          subst e2; subst e4
          (conv => whnf); refine VC.fa fl35_2 ?_
          (conv => whnf); refine ld1 (v := vn) ct23 (by rw [hb57.cell, Nat.zero_add]; exact dfaL_257 hpl) trivial ?_
          (conv => whnf); refine vbuild1 sl23 [.slice (some ⟨rb, 0, none⟩) f.length f.length] rfl rfl (by decide) (by decide) ?_
          intro q8 H8 hq8 hs8 hb8 ha8
          have hnewS : ∀ j, (Sr j ∨ j = rb) → j < H8.size ∧ ¬ slB vn j := fun j hj => by
            rcases hj with hj | rfl
            · have := hSr j hj; exact ⟨by omega, this.2.2.1⟩
            · exact ⟨by omega, fun hb => by have := (hvn.lt hb).2; omega⟩
          have hvn8 : SlO tRows (fun j => Sr j ∨ j = rb) H8 H4.size 33 vn ((next.map (rowR cells f)).take q) := (hvn7.agr ha8 (fun j hj => by have := (hvn.lt hj).2; omega) (fun j hj => by have := hSr j hj; omega)).mono fun j hj => .inl hj
          have hqn : ((next.map (rowR cells f)).take q).length = q := by rw [List.length_take, List.length_map]; omega
          (conv => whnf); refine vappendO (T := tRows) (S := fun j => Sr j ∨ j = rb) (ys := [rowR cells f row]) (ds := [.slice (some ⟨rb, 0, none⟩) f.length f.length]) (lo := H4.size) (xs := (next.map (rowR cells f)).take q) sl23 hvn8 (by omega) hnewS
              (hb8.cells (fun j v hv => by simpa using hv)) (Ty.reps_one ⟨some ⟨rb, 0, none⟩, f.length, by rw [hrl'], (hxd.frame (ha8.mono fun j hj => by omega)).mono fun j hj => .inr hj⟩) rfl (by intro u hu; cases List.mem_singleton.1 hu; rfl) (by rw [hqn]; simp only [maxLen, List.length_singleton]; omega) (by rw [hqn]; simp only [List.length_singleton]; omega) ?_
          intro v9 H9 hvn9 ha9 hs9 hfr9
          have hb59 : Blk H9 p3 35 (dfaL ps (.slice ra f.length rc) vn vf) := (hb57.agr ha8 (show p3 < q8 by omega)).agr ha9 ⟨by omega, fun hb => by have := (hvn.lt hb).1; omega⟩
          (conv => whnf); refine VC.fa fl35_2 ?_
          (conv => whnf); refine st1 ct23 hb59 (by rw [hl259]; omega) hvn9.one ?_
          intro H10 hb10 ha10 hs10
          rw [Nat.zero_add, dfaL_put257 hpl] at hb10
          have hrb_ne : ∀ j, slB vn j → j ≠ rb := fun j hj => by have := (hvn.lt hj).2; omega
          have hvn10 : SlO tRows (fun j => Sr j ∨ j = rb) H10 H4.size 33 v9 ((next.map (rowR cells f)).take q ++ [rowR cells f row]) := hvn9.agr ha10 (fun j hj => by have := (hvn9.lt hj).1; omega) (fun j hj => by
            rcases hj with hj | rfl
            · have := hSr j hj; omega
            · omega)
          have hvf8 := hvf7.agr ha8 (fun j hj => by have := (hvf.lt hj).2; omega) (fun _ f => f.elim)
          have hvf9 := hvf8.agr ha9 (fun j hj => ⟨(hvf8.lt hj).2, fun hb => hap j hb hj⟩) (fun _ f => f.elim)
          have hvf10 := hvf9.agr ha10 (fun j hj => by have := (hvf9.lt hj).1; omega) (fun _ f => f.elim)
          have hap9 : ∀ j, slB v9 j → ¬ slB vf j := fun j hj hj' => by
            rcases hfr9 j hj with h | h
            · exact hap j h hj'
            · have := (hvf8.lt hj').2; omega
          have hSr9 : ∀ j, Sr j ∨ j = rb → H4.size ≤ j ∧ j < H10.size ∧ ¬ slB v9 j ∧ ¬ slB vf j := fun j hj => by
            have h1 := hnewS j hj
            refine ⟨?_, by omega, fun hb => ?_, fun hb => ?_⟩
            · rcases hj with hj | rfl
              · exact (hSr j hj).1
              · omega
            · rcases hfr9 j hb with h | h
              · exact h1.2 h
              · omega
            · rcases hj with hj | rfl
              · exact (hSr j hj).2.2.2 hb
              · have := (hvf.lt hb).2; omega
          have hA10 : Agr (Old H) H H10 := ((hA7.trans (ha8.mono fun j hj => by have := old_lt hA7 hj; omega)).trans (ha9.mono fun j hj => ⟨by have := old_lt hA7 hj; omega, fun hb => by have := (hvn.lt hb).1; have := old_lt hA4 hj; omega⟩)).trans (ha10.mono fun j hj => by have := old_lt hA2 hj; omega)
          have h410 : Agr (fun j => j < H4.size ∧ j ≠ p3) H4 H10 := ((h47.trans (ha8.mono fun j hj => by omega)).trans (ha9.mono fun j hj => ⟨by omega, fun hb => by have := (hvn.lt hb).1; omega⟩)).trans (ha10.mono fun j hj => hj.2)
          (conv => whnf)
          have hnof : ∀ j, j < H4.size → ¬ slB vf j := fun j hj hb => by have := (hvf.lt hb).1; omega
          refine VDraw.held (fun j => j < H10.size ∧ ¬ slB vf j) 9 (sq [0,1,2,3,4,5] (.f 6 (.f 7 (sq [8] (.f 9 .e))))) rfl (by kernel_rfl) ?_
          (conv => whnf); refine VC.fa fl35_3 ?_
          (conv => whnf); refine ld1 (v := vf) ct24 (by rw [hb10.cell, Nat.zero_add]; exact dfaL_258 hpl) ⟨hb10.lt, hnof _ hp34⟩ ?_
          (conv => whnf); refine ixr sl24 (hf.frame (hA10.mono hS)) hfin rfl ?_
          rintro b11 o11 cs11 hSb11 hcells11 rfl
          (conv => whnf); refine ld1 ct4 hcells11.one ⟨old_lt hA10 (hS _ hSb11), hnof _ (old_lt hA4 (hS _ hSb11))⟩ ?_
          (conv => whnf); refine vbuild1 sl24 [.bool fin] rfl rfl (by decide) (by decide) ?_
          intro q12 H12 hq12 hs12 hb12' ha12
          refine ⟨ha12.mono fun j hj => by omega, ?_⟩
          have hvf12 := hvf10.agr ha12 (fun j hj => by have := (hvf10.lt hj).2; omega) (fun _ f => f.elim)
          have hfq : (final.take q).length = q := by rw [List.length_take]; omega
          (conv => whnf); refine vappendO (T := tBool) (S := fun _ => False) (ys := [fin]) (ds := [.bool fin]) (lo := H4.size) (xs := final.take q) sl24 hvf12 (by omega) (fun j hj => hj.elim)
              (hb12'.cells (fun j v hv => by simpa using hv)) (Ty.reps_one rfl) rfl (by intro u hu; cases List.mem_singleton.1 hu; rfl) (by rw [hfq]; simp only [maxLen, List.length_singleton]; omega) (by rw [hfq]; simp only [List.length_singleton]; omega) ?_
          intro v13 H13 hvf13 ha13 hs13 hfr13
          refine ⟨(ha12.mono fun j hj => by omega).trans (ha13.mono fun j hj => ⟨by omega, hj.2⟩), ?_⟩
          have hb13 : Blk H13 p3 35 (dfaL ps (.slice ra f.length rc) v9 vf) := (hb10.agr ha12 (show p3 < q12 by omega)).agr ha13 ⟨by omega, hnof _ hp34⟩
          (conv => whnf); refine VC.fa fl35_3 ?_
          (conv => whnf); refine st1 ct24 hb13 (by rw [hl259]; omega) hvf13.one ?_
          intro H14 hb14 ha14 hs14
          rw [Nat.zero_add, dfaL_put258 hpl] at hb14
          have hvf14 := hvf13.agr ha14 (fun j hj => by have := (hvf13.lt hj).1; omega) (fun _ f => f.elim)
          have hvn12 := hvn10.agr ha12 (fun j hj => by have := (hvn10.lt hj).2; omega) (fun j hj => by have := hSr9 j hj; omega)
          have hvn13 := hvn12.agr ha13 (fun j hj => ⟨(hvn12.lt hj).2, hap9 j hj⟩) (fun j hj => by have := hSr9 j hj; exact ⟨by omega, this.2.2.2⟩)
          have hvn14 := hvn13.agr ha14 (fun j hj => by have := (hvn13.lt hj).1; omega) (fun j hj => by have := hSr9 j hj; omega)
          (conv => whnf); rw [w64 (x := (q : Int) + 1) (by omega) (by omega)]
          refine ⟨rfl, q + 1, by simp, ⟨by omega, ?_, by omega, v9, v13, fun j => Sr j ∨ j = rb, hb14, ?_, ?_, fun j hj => ?_, fun j hj hj' => ?_⟩, by omega⟩
          · exact ((h410.trans (ha12.mono fun j hj => by omega)).trans (ha13.mono fun j hj => ⟨by omega, hnof j hj.1⟩)).trans (ha14.mono fun j hj => hj.2)
          · rw [take_succ_snoc (x := rowR cells f row) (by rw [List.getElem?_map, hrow]; rfl)]; exact hvn14
          · rw [take_succ_snoc hfin]; exact hvf14
          · have h1 := hSr9 j hj
            refine ⟨h1.1, by omega, h1.2.2.1, fun hb => ?_⟩
            rcases hfr13 j hb with h | h
            · exact h1.2.2.2 h
            · omega
          · rcases hfr13 j hj' with h | h
            · exact hap9 j hj h
            · have := (hvn12.lt hj).2; omega
    · obtain rfl : q = next.length := by omega
      have hml : (next.map (rowR cells f)).length = next.length := List.length_map _
      rw [show (next.map (rowR cells f)).take next.length = next.map (rowR cells f) by rw [← hml, List.take_length]] at hvn
      rw [show final.take next.length = final by rw [hn3, List.take_length]] at hvf
      have hnS : ∀ j, slB vn j → H4.size ≤ j ∧ j < H5.size := fun j hj => hvn.lt hj
      obtain ⟨xa, xcap, rfl, hxd, -⟩ := hvn.view (S' := fun j => H4.size ≤ j ∧ j < H5.size) hnS (fun j hj => by have := hSr j hj; omega)
      obtain ⟨ya, ycap, rfl, hyd, -⟩ := hvf.view (S' := fun j => H4.size ≤ j ∧ j < H5.size) (fun j hj => hvf.lt hj) (fun _ f => f.elim)
      have hb15 := hb14.agr ha5 ⟨by omega, by omega⟩
      have hr5 : SlD tI (fun j => H1.size ≤ j ∧ j < H2.size) H5 ra rc (asI f) := hr4.frame (ha5.mono fun j hj => by omega)
      (conv => whnf); refine ldN (cs := dfaL ps (.slice ra f.length rc) (.slice xa (next.map (rowR cells f)).length xcap) (.slice ya final.length ycap)) (by rw [hl259]; exact ag35) (hb5.cells fun j v hv => by rw [Nat.zero_add]; exact hv) trivial ?_
      (conv => whnf); refine VC.stN (cs := dfaL ps (.slice ra f.length rc) (.slice xa (next.map (rowR cells f)).length xcap) (.slice ya final.length ycap)) (by rw [hl259]; rfl) hb15 (Nat.le_of_eq (by rw [hl259, dfaL_len (by simp)])) (dfaL_ones rfl rfl rfl) ?_
      intro H6 hb6 ha6 hs6
      rw [splice_all (by rw [hl259, dfaL_len (by simp)])] at hb6
      (conv => whnf); refine ldN (cs := dfaL ps (.slice ra f.length rc) (.slice xa (next.map (rowR cells f)).length xcap) (.slice ya final.length ycap)) (by rw [hl259]; exact ag35) (hb6.cells fun j v hv => by rw [Nat.zero_add]; exact hv) trivial ?_
      have hup : ∀ j, H4.size ≤ j ∧ j < H5.size → Fresh H H6 j := fun j hj => by unfold Fresh; have := old_size hA2; omega
      refine ⟨hA5.trans (ha6.mono fun j hj => by unfold Old at hj; omega), by omega, ⟨by simp only [madeD]; rw [hpeq]; exact hpl, ra, rc, xa, xcap, ya, ycap, ?_, ?_, ?_, ?_⟩⟩
      · simp only [madeD, hfeq, hpeq, asI_len]
      · simp only [madeD, hfeq]
        exact (hr5.frame (ha6.mono fun j hj => by omega)).mono fun j hj => by unfold Fresh; omega
      · simp only [madeD, hfeq]
        exact (hxd.frame (ha6.mono fun j hj => by omega)).mono hup
      · exact (hyd.frame (ha6.mono fun j hj => by omega)).mono hup

end Go.Proofs.YthomdogheamfpaaDoor

/- The document's None, Whole, Made, Step, IsFinal, Accepts. -/
set_option linter.unusedVariables false
set_option linter.unusedSimpArgs false
set_option maxRecDepth 100000
namespace Go.Proofs.YthomdogheamfpaaDoor
open Go.VC
attribute [local irreducible] mRun atRun

theorem none_c (H : Heap) : FnOk Tryd.prog 49 #[] H fun v H' => Agr (Old H) H H' ∧ H.size ≤ H'.size ∧ DfaV (Fresh H H') H' v noneD := by
  refine FnOk.of_vc Tryd.func49 rfl (Tryd.call49 _) ?_
  (conv => whnf); refine valloc _ (dfaL (List.replicate 256 0) (.slice none 0 0) (.slice none 0 0) (.slice none 0 0)) rfl (by kernel_rfl) ?_
  intro p1 H1 hp1 hs1 hb1 ha1
  (conv => whnf); refine vbuild1 sl33 [.int .i64 0] rfl rfl (by decide) (by decide) ?_
  intro b2 H2 hb2 hs2 hk2 ha2
  (conv => whnf); refine vbuild1 sl33 [.int .i64 0] rfl rfl (by decide) (by decide) ?_
  intro b3 H3 hb3 hs3 hk3 ha3
  (conv => whnf); refine vbuild1 sl23 [.slice (some ⟨b3, 0, none⟩) 1 1] rfl rfl (by decide) (by decide) ?_
  intro b4 H4 hb4 hs4 hk4 ha4
  (conv => whnf); refine vbuild1 sl24 [.bool false] rfl rfl (by decide) (by decide) ?_
  intro b5 H5 hb5 hs5 hk5 ha5
  (conv => whnf); refine vbuildS rfl rfl _ rfl (dfaL (List.replicate 256 0) (.slice (some ⟨b2, 0, none⟩) 1 1) (.slice (some ⟨b4, 0, none⟩) 1 1) (.slice (some ⟨b5, 0, none⟩) 1 1)) (by kernel_rfl) ?_
  have hb15 := (((hb1.agr ha2 (show p1 < b2 by omega)).agr ha3 (show p1 < b3 by omega)).agr ha4 (show p1 < b4 by omega)).agr ha5 (show p1 < b5 by omega)
  have hk25 := ((hk2.agr ha3 (show b2 < b3 by omega)).agr ha4 (show b2 < b4 by omega)).agr ha5 (show b2 < b5 by omega)
  have hk35 := (hk3.agr ha4 (show b3 < b4 by omega)).agr ha5 (show b3 < b5 by omega)
  have hk45 := hk4.agr ha5 (show b4 < b5 by omega)
  have hl259 : (dfaL (List.replicate 256 0) (.slice (some ⟨b2, 0, none⟩) 1 1) (.slice (some ⟨b4, 0, none⟩) 1 1) (.slice (some ⟨b5, 0, none⟩) 1 1)).length = 259 := dfaL_len (by simp)
  (conv => whnf); refine VC.stN (cs := dfaL (List.replicate 256 0) (.slice (some ⟨b2, 0, none⟩) 1 1) (.slice (some ⟨b4, 0, none⟩) 1 1) (.slice (some ⟨b5, 0, none⟩) 1 1)) (by rw [hl259]; rfl) hb15 (Nat.le_of_eq (by rw [hl259, dfaL_len (by simp)])) (dfaL_ones rfl rfl rfl) ?_
  intro H6 hb6 ha6 hs6
  rw [splice_all (by rw [hl259, dfaL_len (by simp)])] at hb6
  (conv => whnf); refine ldN (cs := dfaL (List.replicate 256 0) (.slice (some ⟨b2, 0, none⟩) 1 1) (.slice (some ⟨b4, 0, none⟩) 1 1) (.slice (some ⟨b5, 0, none⟩) 1 1)) (by rw [hl259]; exact ag35) (hb6.cells fun j v hv => by rw [Nat.zero_add]; exact hv) trivial ?_
  have z : ∀ {b : Nat}, Blk H6 b 3 [.int .i64 0] → Fresh H H6 b → SlD tI (Fresh H H6) H6 (some ⟨b, 0, none⟩) 1 [0] := fun h hf => SlD.ofBlk h hf (Ty.reps_one ⟨rfl, inI64 (x := 0) (by decide)⟩) rfl (by decide)
  refine ⟨((((((ha1.mono fun j hj => by unfold Old at hj; omega).trans (ha2.mono fun j hj => by unfold Old at hj; omega)).trans (ha3.mono fun j hj => by unfold Old at hj; omega)).trans (ha4.mono fun j hj => by unfold Old at hj; omega)).trans (ha5.mono fun j hj => by unfold Old at hj; omega)).trans (ha6.mono fun j hj => by unfold Old at hj; omega)), by omega, by simp [noneD], _, _, _, _, _, _, rfl, ?_, ?_, ?_⟩
  · exact z (hk25.agr ha6 (show b2 ≠ p1 by omega)) ⟨by omega, by omega⟩
  · exact SlD.ofBlk (hk45.agr ha6 (show b4 ≠ p1 by omega)) ⟨by omega, by omega⟩ (Ty.reps_one ⟨_, _, rfl, z (hk35.agr ha6 (show b3 ≠ p1 by omega)) ⟨by omega, by omega⟩⟩) rfl (by decide)
  · exact SlD.ofBlk (hk5.agr ha6 (show b5 ≠ p1 by omega)) ⟨by omega, by omega⟩ (Ty.reps_one rfl) rfl (by decide)

theorem whole_p (v : Value) (cells : List (BitVec 256)) (next : List (List Int)) (final : List Bool) (S : Nat → Prop) (H : Heap) (ht : TabIn S H v cells next final) :
    Pure Tryd.prog 48 #[v] H (.bool (soundB cells next final.length)) := by
  obtain ⟨hS, ⟨ca, na, fa, cc, nc, fc, rfl, hc, hn, hf⟩, cn, nn, rn, fn⟩ := ht
  refine FnOk.of_vc Tryd.func48 rfl (Tryd.call48 _) ?_
  (conv => whnf); refine vbox [.slice ca cells.length cc, .slice na next.length nc, .slice fa final.length fc] rfl ?_
  intro pb H1 hpb hs1 hb1 ha1
  have hA1 : Agr (Old H) H H1 := ha1.mono fun j hj => by unfold Old at hj; omega
  (conv => whnf); refine VDraw.held (Old H1) 7 (sq [0,2,3,4,5] (.f 1 (.f 6 (.f 7 .e)))) rfl (by kernel_rfl) ?_
  (conv => whnf); refine ldN (cs := [.slice ca cells.length cc, .slice na next.length nc, .slice fa final.length fc]) ag26 (hb1.cells (fun j v hv => by rw [Nat.zero_add]; exact hv)) hb1.lt ?_
  (conv => whnf); refine VC.fa fl26_1 ?_
  (conv => whnf); refine ld1 ct23 (by rw [hb1.cell]; rfl) hb1.lt ?_
  (conv => whnf); refine VC.fa fl26_2 ?_
  (conv => whnf); refine ld1 ct24 (by rw [hb1.cell]; rfl) hb1.lt ?_
  (conv => whnf); refine VCall.mk (sets_l _ _ ca cc cells S H1 (fun k hk => old_lt hA1 (hS k hk)) (hc.frame (hA1.mono hS)) (by omega)) ?_
  rintro v3 H3 ⟨ha3, hs3, bc, rfl, hbc, own1⟩
  have hA3 := hA1.trans (ha3.mono fun k hk => old_lt hA1 hk)
  refine ⟨ha3, ?_⟩
  obtain ⟨xa, xc, e1, hx, -⟩ := own1.view (S' := Old H3) (fun j hj => (own1.lt hj).2) (fun _ f => f.elim)
  injection e1 with e2 e3 e4
  subst e2; subst e4
  have hn3 : SlD tRows (Old H3) H3 na nc next := (hn.frame (hA3.mono hS)).mono fun k hk => old_lt hA3 (hS k hk)
  (conv => whnf); refine pures (refsound_p (some ⟨bc, 0, none⟩) na fa cells.length nc final.length fc cells next (Old H3) H3 (fun k hk => hk) hx hn3 (by omega) (by omega) (by omega)) fun H4 ha4 => ?_
  refine ⟨ha3.trans (ha4.mono fun k hk => old_lt ha3 hk), ?_⟩
  (conv => whnf)
  exact ⟨rfl, hA3.trans (ha4.mono fun k hk => old_lt hA3 hk)⟩

def dfaOf (cells : List (BitVec 256)) (next : List (List Int)) (final : List Bool) : DM := if soundB cells next final.length then madeD cells next final else noneD
theorem made_c (v : Value) (cells : List (BitVec 256)) (next : List (List Int)) (final : List Bool) (S : Nat → Prop) (H : Heap) (ht : TabIn S H v cells next final) :
    FnOk Tryd.prog 18 #[v] H fun v H' => Agr (Old H) H H' ∧ H.size ≤ H'.size ∧ DfaV (Fresh H H') H' v (dfaOf cells next final) := by
  have ht' := ht
  obtain ⟨hS, ⟨ca, na, fa, cc, nc, fc, rfl, hc, hn, hf⟩, cn, nn, rn, fn⟩ := ht
  refine FnOk.of_vc Tryd.func18 rfl (Tryd.call18 _) ?_
  (conv => whnf); refine vbox [.slice ca cells.length cc, .slice na next.length nc, .slice fa final.length fc] rfl ?_
  intro pb H1 hpb hs1 hb1 ha1
  (conv => whnf); refine valloc _ (dfaL (List.replicate 256 0) (.slice none 0 0) (.slice none 0 0) (.slice none 0 0)) rfl (by kernel_rfl) ?_
  intro p2 H2 hp2 hs2 hb2 ha2
  have hA2 : Agr (Old H) H H2 := (ha1.mono fun j hj => by unfold Old at hj; omega).trans (ha2.mono fun j hj => by unfold Old at hj; omega)
  have hb12 := hb1.agr ha2 (show pb < p2 by omega)
  have htab : ∀ {H' : Heap}, Agr (Old H) H H' → TabIn S H' (.agg #[.slice ca cells.length cc, .slice na next.length nc, .slice fa final.length fc]) cells next final := fun h =>
    ⟨fun k hk => old_lt h (hS k hk), ⟨ca, na, fa, cc, nc, fc, rfl, hc.frame (h.mono hS), hn.frame (h.mono hS), hf.frame (h.mono hS)⟩, cn, nn, rn, fn⟩
  (conv => whnf); refine ldN (cs := [.slice ca cells.length cc, .slice na next.length nc, .slice fa final.length fc]) ag26 (hb12.cells (fun j v hv => by rw [Nat.zero_add]; exact hv)) trivial ?_
  (conv => whnf); refine pures (whole_p _ cells next final S H2 (htab hA2)) fun H3 ha3 => ?_
  have hA3 := hA2.trans (ha3.mono fun k hk => old_lt hA2 hk)
  have hb13 := hb12.agr ha3 hb12.lt
  have hb23 := hb2.agr ha3 hb2.lt
  have hs3 := old_size ha3
  -- the result in its cell
  have fin : ∀ {H5 H6 : Heap} {v : Value} {D : DM} {r : Value → Heap → Prop}, Agr (Old H) H H5 → H3.size ≤ H5.size → DfaV (Fresh H3 H5) H5 v D → Agr (fun k => k ≠ p2) H5 H6 → H6.size = H5.size →
      Agr (Old H) H H6 ∧ H.size ≤ H6.size ∧ DfaV (Fresh H H6) H6 v D := fun h1 h2 h3 h4 h5 =>
    ⟨h1.trans (h4.mono fun j hj => by unfold Old at hj; omega), by omega, (h3.frame (h4.mono fun j hj => by have := hj.1; omega)).mono fun j hj => ⟨by have := hj.1; omega, by have := hj.2; omega⟩⟩
  unfold dfaOf
  cases hso : soundB cells next final.length with
  | false =>
    (conv => whnf); refine VCall.mk (none_c H3) ?_
    rintro v5 H5 ⟨ha5, hs5, hd⟩
    have hd' := hd
    obtain ⟨hl, ra, rc, xa, xc, ya, yc, rfl, -⟩ := hd'
    have hl259 := dfaL_len (rv := .slice ra noneD.reps.length rc) (nv := .slice xa noneD.next.length xc) (fv := .slice ya noneD.final.length yc) hl
    (conv => whnf); refine VC.stN (cs := dfaL noneD.cell (.slice ra noneD.reps.length rc) (.slice xa noneD.next.length xc) (.slice ya noneD.final.length yc)) (by rw [hl259]; rfl) (hb23.agr ha5 hb23.lt) (Nat.le_of_eq (by rw [hl259, dfaL_len (by simp)])) (dfaL_ones rfl rfl rfl) ?_
    intro H6 hb6 ha6 hs6
    rw [splice_all (by rw [hl259, dfaL_len (by simp)])] at hb6
    (conv => whnf); refine ldN (cs := dfaL noneD.cell (.slice ra noneD.reps.length rc) (.slice xa noneD.next.length xc) (.slice ya noneD.final.length yc)) (by rw [hl259]; exact ag35) (hb6.cells fun j v hv => by rw [Nat.zero_add]; exact hv) trivial ?_
    exact fin (r := fun _ _ => True) (hA3.trans (ha5.mono fun k hk => old_lt hA3 hk)) hs5 hd ha6 hs6
  | true =>
    (conv => whnf); refine VDraw.held (Old H3) 7 (sq [0,2,3,4,5] (.f 1 (.f 6 (.f 7 .e)))) rfl (by kernel_rfl) ?_
    (conv => whnf); refine ldN (cs := [.slice ca cells.length cc, .slice na next.length nc, .slice fa final.length fc]) ag26 (hb13.cells (fun j v hv => by rw [Nat.zero_add]; exact hv)) hb13.lt ?_
    (conv => whnf); refine VC.fa fl26_1 ?_
    (conv => whnf); refine ld1 ct23 (by rw [hb13.cell]; rfl) hb13.lt ?_
    (conv => whnf); refine VC.fa fl26_2 ?_
    (conv => whnf); refine ld1 ct24 (by rw [hb13.cell]; rfl) hb13.lt ?_
    (conv => whnf); refine VCall.mk (sets_l _ _ ca cc cells S H3 (fun k hk => old_lt hA3 (hS k hk)) (hc.frame (hA3.mono hS)) (by omega)) ?_
    rintro v4 H4 ⟨ha4, hs4, bc, rfl, hbc, own1⟩
    have hA4 := hA3.trans (ha4.mono fun k hk => old_lt hA3 hk)
    refine ⟨ha4, ?_⟩
    obtain ⟨xa, xc, e1, hx, -⟩ := own1.view (S' := Old H4) (fun j hj => (own1.lt hj).2) (fun _ f => f.elim)
    injection e1 with e2 e3 e4
    subst e2; subst e4
    have up : ∀ k, S k → Old H4 k := fun k hk => old_lt hA4 (hS k hk)
    (conv => whnf); refine VCall.mk (refnew_c (some ⟨bc, 0, none⟩) na fa cells.length nc fc cells next final (Old H4) H4 (fun k hk => hk) hx ((hn.frame (hA4.mono hS)).mono up) ((hf.frame (hA4.mono hS)).mono up) (by omega) hso) ?_
    rintro v5 H5 ⟨ha5, hs5, hd⟩
    refine ⟨ha4.trans (ha5.mono fun k hk => old_lt ha4 hk), ?_⟩
    have hd' := hd
    obtain ⟨hl, ra, rc, xa, xc, ya, yc, rfl, -⟩ := hd'
    have hl259 := dfaL_len (rv := .slice ra (madeD cells next final).reps.length rc) (nv := .slice xa (madeD cells next final).next.length xc) (fv := .slice ya (madeD cells next final).final.length yc) hl
    (conv => whnf); refine VC.stN (cs := dfaL (madeD cells next final).cell (.slice ra (madeD cells next final).reps.length rc) (.slice xa (madeD cells next final).next.length xc) (.slice ya (madeD cells next final).final.length yc)) (by rw [hl259]; rfl) ((hb23.agr ha4 hb23.lt).agr ha5 (old_lt ha4 hb23.lt)) (Nat.le_of_eq (by rw [hl259, dfaL_len (by simp)])) (dfaL_ones rfl rfl rfl) ?_
    intro H6 hb6 ha6 hs6
    rw [splice_all (by rw [hl259, dfaL_len (by simp)])] at hb6
    (conv => whnf); refine ldN (cs := dfaL (madeD cells next final).cell (.slice ra (madeD cells next final).reps.length rc) (.slice xa (madeD cells next final).next.length xc) (.slice ya (madeD cells next final).final.length yc)) (by rw [hl259]; exact ag35) (hb6.cells fun j v hv => by rw [Nat.zero_add]; exact hv) trivial ?_
    exact fin (r := fun _ _ => True) (hA4.trans (ha5.mono fun k hk => old_lt hA4 hk)) (by omega) (hd.mono fun j hj => ⟨by have := hj.1; omega, hj.2⟩) ha6 hs6

end Go.Proofs.YthomdogheamfpaaDoor

/- The document's Step, IsFinal, Accepts, Useful, Live. -/
set_option linter.unusedVariables false
set_option linter.unusedSimpArgs false
set_option maxRecDepth 100000
namespace Go.Proofs.YthomdogheamfpaaDoor
open Go.VC
attribute [local irreducible] mRun atRun

structure DM.Ok (D : DM) : Prop where
  n1 : 1 ≤ D.next.length
  n2 : D.next.length ≤ 65536
  fl : D.final.length = D.next.length
  cell : D.cell.length = 256
  rows : ∀ row ∈ D.next, row.length ≤ 256 ∧ (∀ c ∈ D.cell, 0 ≤ c ∧ c < (row.length : Int)) ∧ ∀ t ∈ row, 0 ≤ t ∧ t < (D.next.length : Int)
def stepD (D : DM) (q : Int) (b : Nat) : Int := if q < 0 ∨ (D.next.length : Int) ≤ q then -1 else ((D.next[q.toNat]?).getD []).getD (D.cell.getD b 0).toNat 0
def finD (D : DM) (q : Int) : Bool := decide (0 ≤ q) && (D.final[q.toNat]?).getD false
theorem dfa_box {S : Nat → Prop} {H : Heap} {v : Value} {D : DM} {K : Value → Heap → Prop} {t : TypeId} (h : DfaV S H v D)
    (k : ∀ ra rc na nc fa fc, v = .agg (dfaL D.cell (.slice ra D.reps.length rc) (.slice na D.next.length nc) (.slice fa D.final.length fc)).toArray → SlD tI S H ra rc D.reps → SlD tRows S H na nc D.next → SlD tBool S H fa fc D.final →
      New H (fun b H' => K (.pointer (some ⟨b, 0, none⟩)) H') t (dfaL D.cell (.slice ra D.reps.length rc) (.slice na D.next.length nc) (.slice fa D.final.length fc))) : VEff Tryd.prog (Instr.box t v) H K := by
  obtain ⟨hl, ra, rc, na, nc, fa, fc, rfl, h1, h2, h3⟩ := h
  exact vbox (dfaL D.cell (.slice ra D.reps.length rc) (.slice na D.next.length nc) (.slice fa D.final.length fc)) rfl (k ra rc na nc fa fc rfl h1 h2 h3)
theorem stepD_at {D : DM} {q b : Nat} {row : List Int} {c : Nat} {t : Int} (hr : D.next[q]? = some row) (hc : D.cell[b]? = some (c : Int)) (ht : row[c]? = some t) : stepD D (q : Int) b = t := by
  have := (List.getElem?_eq_some_iff.1 hr).1
  unfold stepD
  rw [if_neg (by omega)]
  simp only [Int.toNat_natCast, hr, List.getD_eq_getElem?_getD, hc, Option.getD_some, ht]
theorem DM.Ok.at {D : DM} (h : D.Ok) {q b : Nat} (hq : q < D.next.length) (hb : b < 256) : ∃ row c t, D.next[q]? = some row ∧ D.cell[b]? = some ((c : Nat) : Int) ∧ row[c]? = some t ∧ c < 256 ∧ 0 ≤ t ∧ t < (D.next.length : Int) ∧ t ∈ row := by
  obtain ⟨row, hr⟩ := get_some hq
  obtain ⟨ci, hc⟩ := get_some (l := D.cell) (k := b) (by rw [h.cell]; exact hb)
  obtain ⟨h1, h2, h3⟩ := h.rows row (List.mem_of_getElem? hr)
  obtain ⟨h4, h5⟩ := h2 ci (List.mem_of_getElem? hc)
  obtain ⟨c, rfl⟩ := Int.eq_ofNat_of_zero_le h4
  obtain ⟨t, ht⟩ := get_some (l := row) (k := c) (by omega)
  have := h3 t (List.mem_of_getElem? ht)
  exact ⟨row, c, t, hr, hc, ht, by omega, this.1, this.2, List.mem_of_getElem? ht⟩
theorem refstep_p {S : Nat → Prop} {H : Heap} {v : Value} {D : DM} {q : Int} {b : Nat} (hS : ∀ k, S k → k < H.size) (h : DfaV S H v D) (hok : D.Ok) (hb8 : b < 256) :
    Pure Tryd.prog 60 #[v, .int .i64 q, .int .u8 (b : Int)] H (.int .i64 (stepD D q b)) := by
  have hlen := h.len
  refine FnOk.of_vc Tryd.func60 rfl (Tryd.call60 _) ?_
  (conv => whnf); refine dfa_box h fun ra rc na nc fa fc he h1 h2 h3 => ?_
  subst he
  intro pb H1 hpb hs1 hb1 ha1
  have hA1 : Agr (Old H) H H1 := ha1.mono fun j hj => by unfold Old at hj; omega
  cases q with
  | negSucc n =>
    have hd : decide (Int.negSucc n < 0) = true := decide_eq_true (Int.negSucc_lt_zero n)
    (conv => whnf); rw [hd]
    (conv => whnf); exact ⟨by simp [stepD, Int.negSucc_lt_zero], hA1⟩
  | ofNat n =>
    (conv => whnf); refine VC.fa fl35_2 ?_
    (conv => whnf); refine ld1 ct23 (by rw [hb1.cell, Nat.zero_add]; exact dfaL_257 hlen) trivial ?_
    by_cases hn : D.next.length ≤ n
    · have hd : decide ((D.next.length : Int) ≤ Int.ofNat n) = true := decide_eq_true (by simpa using hn)
      (conv => whnf); rw [hd]
      (conv => whnf); exact ⟨by simp [stepD, hn], hA1⟩
    · have hd : decide ((D.next.length : Int) ≤ Int.ofNat n) = false := decide_eq_false (by simpa using hn)
      obtain ⟨row, c, t, hr, hc, ht, hc256, _⟩ := hok.at (q := n) (b := b) (by omega) hb8
      (conv => whnf); rw [hd]
      (conv => whnf); refine VDraw.lex rfl (by kernel_rfl) ?_
      (conv => whnf); refine VC.fa fl35_2 ?_
      (conv => whnf); refine ld1 ct23 (by rw [hb1.cell, Nat.zero_add]; exact dfaL_257 hlen) trivial ?_
      (conv => whnf); refine ixr sl23 (h2.frame (hA1.mono hS)) hr rfl ?_
      rintro b2 o2 cs2 hSb2 hcells2 ⟨xa, xc, rfl, hx⟩
      (conv => whnf); refine ld1 ct33 hcells2.one trivial ?_
      (conv => whnf); rw [w64 (x := (b : Int)) (by omega) (by omega)]
      (conv => whnf); refine VC.fa fl35_0 ?_
      (conv => whnf); refine ixa ar32 (by omega) (by omega) ?_
      (conv => whnf); refine ld1 (v := .int .i64 (c : Int)) ct3 (by rw [hb1.cell, show 0 + 0 + ((b : Nat) : Int).toNat * 1 = b by omega]; exact dfaL_at hc) trivial ?_
      (conv => whnf); refine ixr sl33 hx ht rfl ?_
      rintro b3 o3 cs3 hSb3 hcells3 ⟨rfl, -⟩
      (conv => whnf); refine ld1 ct3 hcells3.one trivial ?_
      (conv => whnf); exact ⟨by rw [show Int.ofNat n = (n : Int) from rfl, stepD_at hr hc ht], hA1⟩
theorem dfa_load {S S0 : Nat → Prop} {H : Heap} {D : DM} {pb : Nat} {ra na fa : Option Addr} {rc nc fc : Nat} {K : Value → Prop} (hb : Blk H pb 35 (dfaL D.cell (.slice ra D.reps.length rc) (.slice na D.next.length nc) (.slice fa D.final.length fc))) (hl : D.cell.length = 256) (hS : S0 pb)
    (h1 : SlD tI S H ra rc D.reps) (h2 : SlD tRows S H na nc D.next) (h3 : SlD tBool S H fa fc D.final) (k : ∀ v, DfaV S H v D → K v) : VDet Tryd.prog (Instr.loadAt 35 (.pointer (some ⟨pb, 0, none⟩))) S0 H K :=
  ldN (cs := dfaL D.cell (.slice ra D.reps.length rc) (.slice na D.next.length nc) (.slice fa D.final.length fc)) (by rw [dfaL_len hl]; exact ag35) (hb.cells fun j v hv => by rw [Nat.zero_add]; exact hv) hS (k _ ⟨hl, ra, rc, na, nc, fa, fc, rfl, h1, h2, h3⟩)
end Go.Proofs.YthomdogheamfpaaDoor

/- The document's Useful and Live. -/
set_option linter.unusedVariables false
set_option linter.unusedSimpArgs false
set_option maxRecDepth 100000
namespace Go.Proofs.YthomdogheamfpaaDoor
open Go.VC
attribute [local irreducible] mRun atRun

/-- What is marked so far. -/
structure MkOk (D : DM) (u : List Bool) : Prop where
  len : u.length = D.next.length
  live : ∀ q : Nat, u[q]? = some true → LiveT D.next D.final q
  fin : ∀ q : Nat, D.final[q]? = some true → u[q]? = some true
def Shut (D : DM) (u : List Bool) (q : Nat) : Prop := u[q]? = some true ∨ ∀ (row : List Int) (t : Nat), D.next[q]? = some row → (t : Int) ∈ row → u[t]? ≠ some true
end Go.Proofs.YthomdogheamfpaaDoor

/- The document's Live; both automata of a table step alike. -/
set_option linter.unusedVariables false
set_option linter.unusedSimpArgs false
set_option maxRecDepth 100000
namespace Go.Proofs.YthomdogheamfpaaDoor
open Go.VC
attribute [local irreducible] mRun atRun

open Classical in
noncomputable def aliveD (D : DM) (q : Int) : Bool := decide (LiveT D.next D.final q.toNat)
theorem stepD_range {D : DM} (hok : D.Ok) {q : Int} {b : Nat} (h0 : 0 ≤ q) (h1 : q < D.next.length) (hb : b < 256) : 0 ≤ stepD D q b ∧ stepD D q b < D.next.length := by
  obtain ⟨n, rfl⟩ := Int.eq_ofNat_of_zero_le h0
  obtain ⟨row, c, t, hr, hc, ht, _, h2, h3, _⟩ := hok.at (q := n) (b := b) (by omega) hb
  rw [stepD_at hr hc ht]
  exact ⟨h2, h3⟩
end Go.Proofs.YthomdogheamfpaaDoor

/- Tables in memory: boxed and loaded again. -/
set_option linter.unusedVariables false
set_option linter.unusedSimpArgs false
namespace Go.Proofs.YthomdogheamfpaaDoor
open Go.VC
section
variable {S : Nat → Prop} {H : Heap} {v : Value} {cells : List (BitVec 256)} {next : List (List Int)} {final : List Bool}
theorem TabIn.frame (h : TabIn S H v cells next final) {H' : Heap} (k : Agr (Old H) H H') : TabIn S H' v cells next final := by
  obtain ⟨hS, ⟨ca, na, fa, cc, nc, fc, rfl, hc, hn, hf⟩, r1, r2, r3, r4⟩ := h
  exact ⟨fun j hj => old_lt k (hS j hj), ⟨ca, na, fa, cc, nc, fc, rfl, hc.frame (k.mono hS), hn.frame (k.mono hS), hf.frame (k.mono hS)⟩, r1, r2, r3, r4⟩
theorem tab_box {t : TypeId} {K : Value → Heap → Prop} (h : TabIn S H v cells next final) (k : ∀ l : List Value, l.length = 3 → v = .agg l.toArray → New H (fun b H' => K (.pointer (some ⟨b, 0, none⟩)) H') t l) : VEff Tryd.prog (Instr.box t v) H K := by
  obtain ⟨hS, ⟨ca, na, fa, cc, nc, fc, rfl, hc, hn, hf⟩, r1, r2, r3, r4⟩ := h
  exact vbox _ rfl (k [_, _, _] rfl rfl)
theorem tab_load {pb : Nat} {S0 : Nat → Prop} {K : Value → Prop} {l : List Value} (hl : l.length = 3) (hv : v = .agg l.toArray) (hb : Blk H pb 26 l) (hS : S0 pb) (k : K v) : VDet Tryd.prog (Instr.loadAt 26 (.pointer (some ⟨pb, 0, none⟩))) S0 H K := by
  subst hv
  exact ldN (cs := l) (by rw [hl]; exact ag26) (hb.cells fun j v hv => by rw [Nat.zero_add]; exact hv) hS k
end
end Go.Proofs.YthomdogheamfpaaDoor
/- Both automata of a table step alike. -/
set_option linter.unusedVariables false
set_option linter.unusedSimpArgs false
set_option maxRecDepth 100000
namespace Go.Proofs.YthomdogheamfpaaDoor
open Go.VC

/-! ### merging, once more -/
structure MOk2 (next : List (List Int)) (cells : List (BitVec 256)) (b : Nat) (st : MS) : Prop where
  at_ : ∀ (i p : Nat), st.cell[i]? = some p → ∃ c, st.cols[p]? = some c ∧ alikeB next c (cellOf cells i) = true
  some_ : ∀ p, p < st.cols.length → ∃ i, i < b ∧ st.cell[i]? = some p
theorem alikeB_refl (next : List (List Int)) (c : Nat) : alikeB next c c = true := by simp [alikeB]
theorem mRun_ok2 {next : List (List Int)} {cells : List (BitVec 256)} {sp : Nat → BitVec 256} (hc : ∀ b, b < 256 → cellOf cells b < cells.length) : ∀ b, b ≤ 256 → MOk2 next cells b (mRun next cells sp b)
  | 0, _ => ⟨(fun i p h => by simp [mRun] at h), (fun p h => by simp [mRun] at h)⟩
  | b + 1, hb => by
    have ih := mRun_ok2 (next := next) (sp := sp) hc b (by omega)
    have ho := mRun_ok (next := next) (sp := sp) hc b (by omega)
    unfold mRun mStep mNew
    cases hf : mFind next (mRun next cells sp b).cols (cellOf cells b) with
    | some k =>
      unfold mFind at hf
      obtain ⟨hk, hal, _⟩ := List.findIdx?_eq_some_iff_getElem.1 hf
      refine ⟨fun i p h => ?_, fun p hp => ?_⟩
      · simp only at h ⊢
        by_cases hib : i < b
        · rw [List.getElem?_append_left (by rw [ho.cell]; exact hib)] at h
          exact ih.at_ i p h
        · rw [List.getElem?_append_right (by rw [ho.cell]; omega), ho.cell] at h
          have h0 := (List.getElem?_eq_some_iff.1 h).1
          simp only [List.length_singleton] at h0
          rw [show i - b = 0 by omega, List.getElem?_cons_zero] at h
          cases h
          rw [show i = b by omega]
          exact ⟨_, List.getElem?_eq_getElem hk, hal⟩
      · simp only at hp ⊢
        obtain ⟨i, h1, h2⟩ := ih.some_ p hp
        exact ⟨i, by omega, by rw [List.getElem?_append_left (by rw [ho.cell]; exact h1)]; exact h2⟩
    | none =>
      refine ⟨fun i p h => ?_, fun p hp => ?_⟩
      · simp only at h ⊢
        by_cases hib : i < b
        · rw [List.getElem?_append_left (by rw [ho.cell]; exact hib)] at h
          obtain ⟨c, h1, h2⟩ := ih.at_ i p h
          exact ⟨c, by rw [List.getElem?_append_left (List.getElem?_eq_some_iff.1 h1).1]; exact h1, h2⟩
        · rw [List.getElem?_append_right (by rw [ho.cell]; omega), ho.cell] at h
          have h0 := (List.getElem?_eq_some_iff.1 h).1
          simp only [List.length_singleton] at h0
          rw [show i - b = 0 by omega, List.getElem?_cons_zero] at h
          cases h
          rw [show i = b by omega]
          exact ⟨cellOf cells b, by simp, alikeB_refl _ _⟩
      · simp only [List.length_append, List.length_singleton] at hp ⊢
        by_cases hpl : p < (mRun next cells sp b).cols.length
        · obtain ⟨i, h1, h2⟩ := ih.some_ p hpl
          exact ⟨i, by omega, by rw [List.getElem?_append_left (by rw [ho.cell]; exact h1)]; exact h2⟩
        · exact ⟨b, by omega, by rw [List.getElem?_append_right (by rw [ho.cell]; omega), ho.cell, Nat.sub_self, List.getElem?_cons_zero]; congr 1; omega⟩
attribute [local irreducible] mRun atRun
theorem alikeB_row {next : List (List Int)} {c d : Nat} {row : List Int} (h : alikeB next c d = true) (hr : row ∈ next) : row[c]? = row[d]? := by
  unfold alikeB at h
  simp only [Bool.or_eq_true, beq_iff_eq, List.all_eq_true] at h
  rcases h with h | h
  · rw [h]
  · exact h row hr
theorem sig_cell {cells : List (BitVec 256)} {a b : Nat} (h : sigEq cells a b = true) : cellOf cells a = cellOf cells b := by
  unfold cellOf
  unfold sigEq at h
  rw [List.all_eq_true] at h
  induction cells with
  | nil => rfl
  | cons c cs ih =>
    have h1 : c.getLsbD a = c.getLsbD b := by simpa using h c List.mem_cons_self
    rw [List.findIdx_cons, List.findIdx_cons, h1, ih fun x hx => h x (List.mem_cons_of_mem _ hx)]

theorem madeD_step {cells : List (BitVec 256)} {next : List (List Int)} {final : List Bool} {q b : Nat} {row : List Int} (hq : next[q]? = some row) (hb : b < 256) : stepD (madeD cells next final) (q : Int) b = row.getD (cellOf cells b) 0 := by
  have hok := atRun_ok cells 256
  obtain ⟨p, hp⟩ := get_some (l := (atRun cells 256).2) (k := b) (by rw [hok.plen]; exact hb)
  have hpl := hok.lt p (List.mem_of_getElem? hp)
  obtain ⟨g, hg⟩ := get_some hpl
  have hsig := (hok.sig b p g hp hg).1
  refine stepD_at (row := rowR cells (atRun cells 256).1 row) (c := p) (by simp only [madeD]; rw [List.getElem?_map, hq]; rfl) (by simp only [madeD]; exact asI_get hp) ?_
  unfold rowR
  rw [List.getElem?_map, hg]
  simp only [Option.map_some, sig_cell hsig]

/-! ### one step -/
section
variable {cells : List (BitVec 256)} {next : List (List Int)} {final : List Bool} (hs : soundB cells next final.length = true)
include hs
theorem madeM_row {q b : Nat} {row : List Int} (hq : next[q]? = some row) (hb : b < 256) : ∃ rA p, (madeM cells next final).next[q]? = some rA ∧ (madeM cells next final).cell[b]? = some p ∧ rA[p]? = some (row.getD (cellOf cells b) 0) := by
  have hc := fun b hb => (soundB_cells hs (b := b) hb).1
  have ho := mRun_ok (next := next) (sp := fun b => spanS b b) hc 256 (Nat.le_refl _)
  have h2 := mRun_ok2 (next := next) (sp := fun b => spanS b b) hc 256 (Nat.le_refl _)
  obtain ⟨p, hp⟩ := get_some (l := (mRun next cells (fun b => spanS b b) 256).cell) (k := b) (by rw [ho.cell]; exact hb)
  obtain ⟨c, hcol, hal⟩ := h2.at_ b p hp
  refine ⟨rowOf (mRun next cells (fun b => spanS b b) 256).cols row, p, by simp only [madeM]; rw [List.getElem?_map, hq]; rfl, hp, ?_⟩
  unfold rowOf
  rw [List.getElem?_map, hcol]
  simp only [Option.map_some, Option.some.injEq]
  rw [List.getD_eq_getElem?_getD, List.getD_eq_getElem?_getD, alikeB_row hal (List.mem_of_getElem? hq)]
theorem madeM_step {q b : Nat} {row : List Int} (hq : next[q]? = some row) (hb : b < 256) : stepM (some (madeM cells next final)) (q : Int) b = row.getD (cellOf cells b) 0 := by
  obtain ⟨rA, p, h1, h2, h3⟩ := madeM_row hs hq hb
  have := (List.getElem?_eq_some_iff.1 h1).1
  unfold stepM
  rw [if_neg (by simp [stN]; omega)]
  simp only [Int.toNat_natCast, h1, List.getD_eq_getElem?_getD, h2, Option.getD_some, h3]
theorem madeD_ok : (madeD cells next final).Ok := by
  obtain ⟨n1, n2, n3, hrows⟩ := soundB_rows hs
  have hok := atRun_ok cells 256
  refine ⟨by simpa [madeD] using n1, by simpa [madeD] using n2, by simp [madeD, n3], by simp [madeD, asI_len, hok.plen], fun row hr => ?_⟩
  simp only [madeD, List.mem_map] at hr
  obtain ⟨r, hr, rfl⟩ := hr
  obtain ⟨h1, h2⟩ := hrows r hr
  have hfl := hok.flen
  refine ⟨by rw [rowR_len]; exact hfl, fun c hc => ?_, fun t ht => ?_⟩
  · simp only [madeD, asI, List.mem_map] at hc
    obtain ⟨p, hp, rfl⟩ := hc
    have := hok.lt p hp
    rw [rowR_len]; omega
  · unfold rowR at ht
    obtain ⟨g, hg, rfl⟩ := List.mem_map.1 ht
    obtain ⟨i, hi⟩ := List.getElem?_of_mem hg
    have hc := (soundB_cells hs (hok.first i g hi).1).1
    simp only [madeD, List.length_map]
    rw [List.getD_eq_getElem?_getD, List.getElem?_eq_getElem (by omega), Option.getD_some]
    exact h2 _ (List.getElem_mem _)
end
theorem LiveT.sub {n1 n2 : List (List Int)} {final : List Bool} (h : ∀ (q : Nat) row (t : Nat), n1[q]? = some row → (t : Int) ∈ row → ∃ row', n2[q]? = some row' ∧ (t : Int) ∈ row') {q : Nat} (hl : LiveT n1 final q) : LiveT n2 final q := by
  induction hl with
  | fin hf => exact .fin hf
  | step hr ht _ ih =>
    obtain ⟨row', h1, h2⟩ := h _ _ _ hr ht
    exact .step h1 h2 ih
theorem made_live {cells : List (BitVec 256)} {next : List (List Int)} {final : List Bool} (hs : soundB cells next final.length = true) (q : Nat) : LiveT (madeM cells next final).next final q ↔ LiveT (madeD cells next final).next final q := by
  have hok := atRun_ok cells 256
  have hM := madeM_ok hs
  have hc := fun b hb => (soundB_cells hs (b := b) hb).1
  have h2 := mRun_ok2 (next := next) (sp := fun b => spanS b b) hc 256 (Nat.le_refl _)
  constructor
  · refine LiveT.sub fun q rA t hr ht => ?_
    have hq : q < next.length := by have := (List.getElem?_eq_some_iff.1 hr).1; simpa [madeM] using this
    obtain ⟨row, hrow⟩ := get_some hq
    obtain ⟨p, hp⟩ := List.getElem?_of_mem ht
    have hrl := (hM.rows rA (List.mem_of_getElem? hr)).1
    have hpl : p < (mRun next cells (fun b => spanS b b) 256).cols.length := by
      have h3 := (List.getElem?_eq_some_iff.1 hp).1
      have ho := mRun_ok (next := next) (sp := fun b => spanS b b) hc 256 (Nat.le_refl _)
      rw [hrl] at h3
      rw [ho.len]; exact h3
    obtain ⟨b, hb, hcell⟩ := h2.some_ p hpl
    have e1 := madeM_step hs hrow hb
    obtain ⟨rA', p', g1, g2, g3⟩ := madeM_row hs hrow hb
    rw [hr] at g1; cases g1
    have : p' = p := by
      have : (madeM cells next final).cell[b]? = some p := hcell
      rw [this] at g2; exact (Option.some.inj g2).symm
    subst this
    rw [hp] at g3
    have e2 := madeD_step (cells := cells) (final := final) hrow hb
    obtain ⟨row', c, t', k1, k2, k3, _, _, _, k4⟩ := (madeD_ok hs).at (q := q) (b := b) (by simpa [madeD] using hq) hb
    rw [stepD_at k1 k2 k3] at e2
    refine ⟨row', k1, ?_⟩
    rw [Option.some.inj g3, ← e2]; exact k4
  · refine LiveT.sub fun q rD t hr ht => ?_
    have hq : q < next.length := by have := (List.getElem?_eq_some_iff.1 hr).1; simpa [madeD] using this
    obtain ⟨row, hrow⟩ := get_some hq
    have hrD : rD = rowR cells (atRun cells 256).1 row := by
      simp only [madeD] at hr
      rw [List.getElem?_map, hrow] at hr
      exact (Option.some.inj hr).symm
    subst hrD
    unfold rowR at ht
    obtain ⟨g, hg, hgt⟩ := List.mem_map.1 ht
    obtain ⟨i, hi⟩ := List.getElem?_of_mem hg
    have hg256 := (hok.first i g hi).1
    obtain ⟨rA, p, g1, g2, g3⟩ := madeM_row hs hrow hg256
    exact ⟨rA, g1, by rw [← hgt]; exact List.mem_of_getElem? g3⟩

/-! ### both -/
section
variable (cells : List (BitVec 256)) (next : List (List Int)) (final : List Bool)
theorem dfaOf_ok : (dfaOf cells next final).Ok := by
  unfold dfaOf
  split
  · rename_i h; exact madeD_ok h
  · refine ⟨by decide, by decide, rfl, by simp [noneD], fun row hr => ?_⟩
    simp only [noneD, List.mem_singleton] at hr
    subst hr
    refine ⟨by decide, fun c hc => ?_, fun t ht => ?_⟩
    · simp only [noneD] at hc
      rw [List.eq_of_mem_replicate hc]; decide
    · rw [List.mem_singleton.1 ht]; decide
theorem both_n : (stN (autoOf cells next final) : Nat) = (dfaOf cells next final).next.length := by
  unfold autoOf dfaOf
  split
  · simp [stN, madeM, madeD]
  · rfl
theorem both_step (q : Int) {b : Nat} (hb : b < 256) : stepM (autoOf cells next final) q b = stepD (dfaOf cells next final) q b := by
  have hn := both_n cells next final
  by_cases hq : q < 0 ∨ ((dfaOf cells next final).next.length : Int) ≤ q
  · unfold stepM stepD
    rw [if_pos hq, if_pos (by rw [hn]; exact hq)]
  · obtain ⟨n, rfl⟩ := Int.eq_ofNat_of_zero_le (show 0 ≤ q by omega)
    unfold autoOf dfaOf at *
    split
    · rename_i hs
      rw [if_pos hs] at hq
      obtain ⟨row, hrow⟩ := get_some (l := next) (k := n) (by simp only [madeD, List.length_map] at hq; omega)
      rw [madeM_step hs hrow hb, madeD_step (cells := cells) (final := final) hrow hb]
    · rename_i hs
      rw [if_neg hs] at hq
      have hn0 : n = 0 := by
        have : noneD.next.length = 1 := rfl
        omega
      subst hn0
      rw [stepD_at (row := [0]) (c := 0) (t := 0) rfl (by simp only [noneD]; rw [List.getElem?_replicate, if_pos hb]; rfl) rfl]
      rfl
theorem both_final (q : Int) : finM (autoOf cells next final) q = finD (dfaOf cells next final) q := by
  unfold autoOf dfaOf
  split
  · rfl
  · unfold finM finD
    by_cases h : q.toNat = 0
    · rw [h]; simp [noneD]
    · have : noneD.final[q.toNat]? = none := List.getElem?_eq_none (by show 1 ≤ _; omega)
      rw [this]; simp
open Classical in
theorem both_alive (q : Int) : aliveM (autoOf cells next final) q = aliveD (dfaOf cells next final) q := by
  unfold autoOf dfaOf
  split
  · rename_i hs
    unfold aliveM aliveD
    exact decide_eq_decide.2 (made_live hs q.toNat)
  · unfold aliveM aliveD
    have : ∀ q, ¬ LiveT noneD.next noneD.final q := fun q hl => by
      induction hl with
      | @fin q hf =>
        have : q < 1 := (List.getElem?_eq_some_iff.1 hf).1
        have : q = 0 := by omega
        subst this
        simp [noneD] at hf
      | step _ _ _ ih => exact ih
    exact (decide_eq_false (this _)).symm
end

end Go.Proofs.YthomdogheamfpaaDoor
/- The law DfaTables: its walk. -/
set_option linter.unusedVariables false
set_option linter.unusedSimpArgs false
set_option maxRecDepth 100000
namespace Go.Proofs.YthomdogheamfpaaDoor
open Go.VC
attribute [local irreducible] mRun atRun

end Go.Proofs.YthomdogheamfpaaDoor
/- same: is the automaton the document's? -/
set_option linter.unusedVariables false
set_option linter.unusedSimpArgs false
set_option maxRecDepth 100000
namespace Go.Proofs.YthomdogheamfpaaDoor
open Go.VC
attribute [local irreducible] mRun atRun

end Go.Proofs.YthomdogheamfpaaDoor
