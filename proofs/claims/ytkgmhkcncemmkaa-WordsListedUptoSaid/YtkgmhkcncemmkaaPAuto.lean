/- The automaton's methods. -/
import Derived.Test.YtkgmhkcncemmkaaPNew
import Derived.Test.YtkgmhkcncemmkaaVMem
set_option linter.unusedVariables false
set_option linter.unusedSimpArgs false
set_option maxRecDepth 100000
namespace Go.Proofs.Ytkgmhkcncemmkaa
open Go.VC
attribute [local irreducible] mRun

def stN : Option AM → Nat
  | none => 1
  | some A => A.next.length
theorem ptrA : Try.prog.underlying 31 = some (.pointer 102) := rfl
theorem states_p {S : Nat → Prop} {H : Heap} {v : Value} {o : Option AM} (h : AutoV S H v o) : Pure Try.prog 73 #[v] H (.int .i64 (stN o : Int)) := by
  cases o with
  | none =>
    obtain rfl := h
    refine FnOk.of_vc Try.func73 rfl (Try.call73 _) ?_
    (conv => whnf); refine peqN ptrA ?_
    (conv => whnf); exact ⟨rfl, Agr.refl _ _⟩
  | some A =>
    obtain ⟨pb, rfl, hown, hok, ac, cc, an, cn, af, cf, aa, ca, al, hb, hsets, hnext, hfin, hal, hall, hlive⟩ := h
    have hcl : A.cell.length ≤ 256 := Nat.le_of_eq hok.cell
    refine FnOk.of_vc Try.func73 rfl (Try.call73 _) ?_
    (conv => whnf); refine peqS ptrA ?_
    (conv => whnf); refine fa fl102_2 ?_
    (conv => whnf); refine ld1 ct23 (by rw [hb.cell, Nat.zero_add]; exact autoL_257 hcl) trivial ?_
    (conv => whnf); exact ⟨rfl, Agr.refl _ _⟩
def finM : Option AM → Int → Bool
  | none, _ => false
  | some A, q => decide (0 ≤ q) && (A.final[q.toNat]?).getD false
theorem final_p {S : Nat → Prop} {H : Heap} {v : Value} {o : Option AM} {q : Int} (h : AutoV S H v o) : Pure Try.prog 49 #[v, .int .i64 q] H (.bool (finM o q)) := by
  cases o with
  | none =>
    obtain rfl := h
    refine FnOk.of_vc Try.func49 rfl (Try.call49 _) ?_
    (conv => whnf); refine pneqN ptrA ?_
    (conv => whnf); exact ⟨rfl, Agr.refl _ _⟩
  | some A =>
    obtain ⟨pb, rfl, hown, hok, ac, cc, an, cn, af, cf, aa, ca, al, hb, hsets, hnext, hfin, hal, hall, hlive⟩ := h
    have hcl : A.cell.length ≤ 256 := Nat.le_of_eq hok.cell
    have hfl := hok.fl
    have hn2 := hok.n2
    refine FnOk.of_vc Try.func49 rfl (Try.call49 _) ?_
    cases q with
    | negSucc n =>
      (conv => whnf); refine pneqS ptrA ?_
      (conv => whnf); exact ⟨rfl, Agr.refl _ _⟩
    | ofNat n =>
      (conv => whnf); refine pneqS ptrA ?_
      (conv => whnf); refine fa fl102_3 ?_
      (conv => whnf); refine ld1 ct24 (by rw [hb.cell, Nat.zero_add]; exact autoL_258 hcl) trivial ?_
      by_cases hnl : n < A.final.length
      · obtain ⟨f, hf⟩ := get_some hnl
        have hd : decide (Int.ofNat n < (A.final.length : Int)) = true := decide_eq_true (by simpa using hnl)
        (conv => whnf); rw [hd]
        (conv => whnf); refine fa fl102_3 ?_
        (conv => whnf); refine ld1 ct24 (by rw [hb.cell, Nat.zero_add]; exact autoL_258 hcl) trivial ?_
        (conv => whnf); refine ixr sl24 hfin hf rfl ?_
        rintro b3 o3 cs3 hSb3 hcells3 rfl
        (conv => whnf); refine ld1 ct4 hcells3.one trivial ?_
        (conv => whnf); exact ⟨by simp [finM, hf], Agr.refl _ _⟩
      · have hd : decide (Int.ofNat n < (A.final.length : Int)) = false := decide_eq_false (by simpa using hnl)
        (conv => whnf); rw [hd]
        (conv => whnf); exact ⟨by simp [finM, List.getElem?_eq_none (Nat.le_of_not_lt hnl)], Agr.refl _ _⟩

theorem autoL_at {cv nv fv av : Value} {cell : List Nat} {b c : Nat} (h : cell[b]? = some c) : (autoL cv cell nv fv av)[1 + b]? = some (.int .u8 (c : Int)) := by
  have hlt := (List.getElem?_eq_some_iff.1 h).1
  unfold autoL
  rw [List.cons_append, Nat.add_comm, List.getElem?_cons_succ, List.append_assoc, List.getElem?_append_left (by simpa using hlt), List.getElem?_map, h]
  rfl
def stepM (o : Option AM) (q : Int) (b : Nat) : Int :=
  if q < 0 ∨ (stN o : Int) ≤ q then -1 else match o with
    | none => 0
    | some A => ((A.next[q.toNat]?).getD []).getD (A.cell.getD b 0) 0
theorem stN_le {S : Nat → Prop} {H : Heap} {v : Value} {o : Option AM} (h : AutoV S H v o) : 1 ≤ stN o ∧ stN o ≤ 65536 := by
  cases o with
  | none => simp [stN]
  | some A => obtain ⟨pb, rfl, hown, hok, _⟩ := h; exact ⟨hok.n1, hok.n2⟩
theorem step_p {S : Nat → Prop} {H : Heap} {v : Value} {o : Option AM} {q : Int} {b : Nat} (hS : ∀ k, S k → k < H.size) (h : AutoV S H v o) (hb8 : b < 256) :
    Pure Try.prog 52 #[v, .int .i64 q, .int .u8 (b : Int)] H (.int .i64 (stepM o q b)) := by
  refine FnOk.of_vc Try.func52 rfl (Try.call52 _) ?_
  cases q with
  | negSucc n =>
    have hd : decide (Int.negSucc n < 0) = true := decide_eq_true (Int.negSucc_lt_zero n)
    (conv => whnf); rw [hd]
    (conv => whnf); exact ⟨by simp [stepM, Int.negSucc_lt_zero], Agr.refl _ _⟩
  | ofNat n =>
    (conv => whnf); refine pures (states_p h) fun H1 ha1 => ?_
    have h1 := h.frame (ha1.mono hS)
    by_cases hn : stN o ≤ n
    · have hd : decide ((stN o : Int) ≤ Int.ofNat n) = true := decide_eq_true (by simpa using hn)
      (conv => whnf); rw [hd]
      (conv => whnf); exact ⟨by simp [stepM, hn], ha1⟩
    · have hd : decide ((stN o : Int) ≤ Int.ofNat n) = false := decide_eq_false (by simpa using hn)
      (conv => whnf); rw [hd]
      have hst : ∀ x, x = (match o with | none => (0 : Int) | some A => ((A.next[n]?).getD []).getD (A.cell.getD b 0) 0) → stepM o (Int.ofNat n) b = x := by
        intro x hx
        subst hx
        unfold stepM
        rw [if_neg (by simp; omega)]
        cases o <;> rfl
      cases o with
      | none =>
        obtain rfl := h1
        (conv => whnf); refine peqN ptrA ?_
        (conv => whnf); exact ⟨by rw [hst 0 rfl], ha1⟩
      | some A =>
        obtain ⟨pb, rfl, hown, hok, ac, cc, an, cn, af, cf, aa, ca, al, hb, hsets, hnext, hfin, hal, hall, hlive⟩ := h1
        have hcl : A.cell.length ≤ 256 := Nat.le_of_eq hok.cell
        simp only [stN] at hn
        obtain ⟨row, hrow⟩ := get_some (l := A.next) (k := n) (by omega)
        obtain ⟨c, hc⟩ := get_some (l := A.cell) (k := b) (by rw [hok.cell]; exact hb8)
        have hrl := (hok.rows row (List.mem_of_getElem? hrow)).1
        have hcp := hok.places c (List.mem_of_getElem? hc)
        obtain ⟨t, ht⟩ := get_some (l := row) (k := c) (by omega)
        (conv => whnf); refine peqS ptrA ?_
        (conv => whnf); refine VDraw.lex rfl (by kernel_rfl) ?_
        (conv => whnf); refine fa fl102_2 ?_
        (conv => whnf); refine ld1 ct23 (by rw [hb.cell, Nat.zero_add]; exact autoL_257 hcl) trivial ?_
        (conv => whnf); refine ixr sl23 hnext hrow rfl ?_
        rintro b2 o2 cs2 hSb2 hcells2 ⟨ra, rc, rfl, hr⟩
        (conv => whnf); refine ld1 ct36 hcells2.one trivial ?_
        (conv => whnf); refine fa fl102_1 ?_
        (conv => whnf); refine ixa ar100 (by omega) (by omega) ?_
        (conv => whnf); refine ld1 (v := .int .u8 (c : Int)) ct5 (by rw [hb.cell, show 0 + 1 + (b : Int).toNat * 1 = 1 + b by omega]; exact autoL_at hc) trivial ?_
        (conv => whnf); refine ixr sl36 hr ht rfl ?_
        rintro b3 o3 cs3 hSb3 hcells3 ⟨rfl, -⟩
        (conv => whnf); refine ld1 ct3 hcells3.one trivial ?_
        (conv => whnf); exact ⟨by rw [hst t (by simp [hrow, hc, ht, List.getD_eq_getElem?_getD])], ha1⟩

def runM (o : Option AM) (s : ByteArray) (k : Nat) : Int := (s.data.toList.take k).foldl (fun q b => stepM o q b.toNat) 0
theorem runM_succ {o : Option AM} {s : ByteArray} {k : Nat} {b : UInt8} (h : s.data[k]? = some b) : runM o s (k + 1) = stepM o (runM o s k) b.toNat := by
  unfold runM
  rw [take_succ_snoc (x := b) (by rw [Array.getElem?_toList]; exact h), List.foldl_append]; rfl
theorem strT : Try.prog.underlying 9 = some .string := rfl
theorem get_byte {s : ByteArray} {k : Nat} (h : k < s.size) : ∃ b, s.data[k]? = some b := ⟨s.data[k]'h, Array.getElem?_eq_getElem h⟩
def acceptsM (o : Option AM) (s : ByteArray) : Bool := finM o (runM o s s.size)
theorem accepts_p {S : Nat → Prop} {H : Heap} {v : Value} {o : Option AM} {s : ByteArray} (hS : ∀ k, S k → k < H.size) (h : AutoV S H v o) (hs : s.size ≤ maxLen) :
    Pure Try.prog 23 #[v, .string s] H (.bool (acceptsM o s)) := by
  unfold maxLen at hs
  refine FnOk.of_vc Try.func23 rfl (Try.call23 _) ?_
  (conv => whnf)
  refine VLoop.mk [5, 9] (fun k : Nat => [.int .i64 (runM o s k), .int .i64 k]) (fun k H2 => k ≤ s.size ∧ Agr (Old H) H H2) (fun k _ => s.size - k) ?_ ?_
  · (conv => whnf); exact ⟨0, rfl, by omega, Agr.refl _ _⟩
  · rintro k H2 junk ⟨hk, ha2⟩
    have h2 := h.frame (ha2.mono hS)
    (conv => whnf); refine VIte.mk (fun h => ?_) (fun h => ?_) <;> simp only [decide_eq_true_eq, decide_eq_false_iff_not] at h
    · obtain ⟨b, hb⟩ := get_byte (s := s) (k := k) (by omega)
      (conv => whnf); refine vidxs strT rfl hb ?_
      (conv => whnf); refine pures (step_p (fun k hk => old_lt ha2 (hS k hk)) h2 (UInt8.toNat_lt b)) fun H3 ha3 => ?_
      (conv => whnf); rw [w64 (x := (k : Int) + 1) (by omega) (by omega)]
      exact ⟨rfl, k + 1, by rw [runM_succ hb]; simp, ⟨by omega, ha2.trans (ha3.mono fun k hk => old_lt ha2 hk)⟩, by omega⟩
    · obtain rfl : k = s.size := by omega
      (conv => whnf); refine pures (final_p h2) fun H3 ha3 => ?_
      (conv => whnf); exact ⟨rfl, ha2.trans (ha3.mono fun k hk => old_lt ha2 hk)⟩

open Classical in
noncomputable def aliveM : Option AM → Int → Bool
  | none, _ => false
  | some A, q => decide (LiveT A.next A.final q.toNat)
noncomputable def liveM (o : Option AM) (s : ByteArray) : Nat :=
  if aliveM o 0 then ((List.range s.size).find? fun i => !aliveM o (runM o s (i + 1))).getD s.size else 0
open Classical in
theorem alive_at {A : AM} {al : List Bool} (hall : al.length = A.next.length) (hlive : ∀ q : Nat, q < A.next.length → (al[q]? = some true ↔ LiveT A.next A.final q)) {q : Nat} (h : q < A.next.length) : al[q]? = some (aliveM (some A) (q : Int)) := by
  obtain ⟨f, hf⟩ := get_some (l := al) (k := q) (by omega)
  have := hlive q h
  rw [hf] at this ⊢
  congr 1
  simp only [aliveM, Int.toNat_natCast]
  cases f with
  | true => exact (decide_eq_true (this.1 rfl)).symm
  | false => exact (decide_eq_false fun hl => by have := this.2 hl; simp at this).symm
theorem empty_p {S : Nat → Prop} {H : Heap} {v : Value} {o : Option AM} (h : AutoV S H v o) : Pure Try.prog 22 #[v] H (.bool (!aliveM o 0)) := by
  refine FnOk.of_vc Try.func22 rfl (Try.call22 _) ?_
  cases o with
  | none =>
    obtain rfl := h
    (conv => whnf); refine peqN ptrA ?_
    (conv => whnf); exact ⟨rfl, Agr.refl _ _⟩
  | some A =>
    obtain ⟨pb, rfl, hown, hok, ac, cc, an, cn, af, cf, aa, ca, al, hb, hsets, hnext, hfin, hal, hall, hlive⟩ := h
    have hcl : A.cell.length ≤ 256 := Nat.le_of_eq hok.cell
    have hf := alive_at hall hlive (q := 0) hok.n1
    (conv => whnf); refine peqS ptrA ?_
    (conv => whnf); refine fa fl102_4 ?_
    (conv => whnf); refine ld1 ct24 (by rw [hb.cell, Nat.zero_add]; exact autoL_259 hcl) trivial ?_
    (conv => whnf); refine ixr sl24 hal hf rfl ?_
    rintro b3 o3 cs3 hSb3 hcells3 rfl
    (conv => whnf); refine ld1 ct4 hcells3.one trivial ?_
    (conv => whnf); exact ⟨rfl, Agr.refl _ _⟩
theorem stepM_range {A : AM} (hok : A.Ok) {q : Int} {b : Nat} (h0 : 0 ≤ q) (h1 : q < A.next.length) (hb : b < 256) : 0 ≤ stepM (some A) q b ∧ stepM (some A) q b < A.next.length := by
  obtain ⟨n, rfl⟩ := Int.eq_ofNat_of_zero_le h0
  obtain ⟨row, hrow⟩ := get_some (l := A.next) (k := n) (by omega)
  obtain ⟨c, hc⟩ := get_some (l := A.cell) (k := b) (by rw [hok.cell]; exact hb)
  have hrl := hok.rows row (List.mem_of_getElem? hrow)
  have hcp := hok.places c (List.mem_of_getElem? hc)
  obtain ⟨t, ht⟩ := get_some (l := row) (k := c) (by omega)
  unfold stepM
  rw [if_neg (by simp [stN]; omega)]
  simp only [Int.toNat_natCast, hrow, List.getD_eq_getElem?_getD, hc, Option.getD_some, ht]
  exact hrl.2 t (List.mem_of_getElem? ht)
theorem runM_range {A : AM} (hok : A.Ok) (s : ByteArray) : ∀ k, k ≤ s.size → 0 ≤ runM (some A) s k ∧ runM (some A) s k < A.next.length
  | 0, _ => ⟨Int.le_refl _, by have := hok.n1; simp only [runM, List.take_zero, List.foldl_nil]; omega⟩
  | k + 1, hk => by
    obtain ⟨b, hb⟩ := get_byte (s := s) (k := k) (by omega)
    obtain ⟨h0, h1⟩ := runM_range hok s k (by omega)
    rw [runM_succ hb]
    exact stepM_range hok h0 h1 (UInt8.toNat_lt b)
end Go.Proofs.Ytkgmhkcncemmkaa
