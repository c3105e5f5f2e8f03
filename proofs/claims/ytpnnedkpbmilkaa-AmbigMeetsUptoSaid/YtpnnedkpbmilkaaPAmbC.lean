import Derived.Test.YtpnnedkpbmilkaaPFst
/- The graphs of Meets, Cat and Iter are what the walks ask for; cuts; plain law. -/
set_option linter.unusedVariables false
set_option linter.unusedSimpArgs false
set_option maxRecDepth 100000
namespace Go.Proofs.Ytpnnedkpbmilkaa
open Go.VC
attribute [local irreducible] mRun gRun atRun
theorem nodupN : ∀ (n : Nat) (l : List Nat), l.Nodup → (∀ x ∈ l, x < n) → l.length ≤ n
  | 0, l, _, h => by
    cases l with
    | nil => exact Nat.le_refl _
    | cons x l => exact absurd (h x List.mem_cons_self) (Nat.not_lt_zero _)
  | n + 1, l, hd, h => by
    have h1 := nodupN n (l.filter fun x => decide (x < n)) (hd.filter _) (fun x hx => by simpa using (List.mem_filter.1 hx).2)
    have h2 : (l.filter fun x => !decide (x < n)).length ≤ 1 := by
      have hd2 : (l.filter fun x => !decide (x < n)).Nodup := hd.filter _
      have he : ∀ x ∈ l.filter (fun x => !decide (x < n)), x = n := fun x hx => by
        obtain ⟨k1, k2⟩ := List.mem_filter.1 hx
        have := h x k1
        simp at k2
        omega
      generalize l.filter (fun x => !decide (x < n)) = m at hd2 he
      match m, hd2, he with
      | [], _, _ => simp
      | [_], _, _ => simp
      | x :: y :: r, hd2, he =>
        have e1 := he x (by simp)
        have e2 := he y (by simp)
        rw [e1, e2] at hd2
        simp at hd2
    have h3 : ∀ m : List Nat, (m.filter fun x => decide (x < n)).length + (m.filter fun x => !decide (x < n)).length = m.length := fun m => by
      induction m with
      | nil => rfl
      | cons x m ih => by_cases hx : x < n <;> simp [List.filter_cons, hx] <;> omega
    have := h3 l
    omega
theorem pwNodup {α : Type} {f : α → Nat} {l : List α} (hn : l.Nodup) (hi : ∀ x ∈ l, ∀ y ∈ l, f x = f y → x = y) : (l.map f).Nodup := by
  unfold List.Nodup
  rw [List.pairwise_map]
  exact (List.Pairwise.and_mem.1 hn).imp fun {x y} ⟨h1, h2, h3⟩ e => h3 (hi x h1 y h2 e)
/-- A state of o. -/
def inA (o : Option AM) (q : Int) : Prop := 0 ≤ q ∧ q < stN o
/-- o's steps stay among its states, of which there are at most 65536. -/
structure StepOk (o : Option AM) : Prop where
  n1 : 1 ≤ stN o
  n2 : stN o ≤ 65536
  step : ∀ q b, inA o q → b < 256 → inA o (stepM o q b)
theorem StepOk.zero {o : Option AM} (h : StepOk o) : inA o 0 := ⟨Int.le_refl _, by have := h.n1; omega⟩
theorem step_rng0 {S : Nat → Prop} {H : Heap} {v : Value} {o : Option AM} (h : AutoV S H v o) {q b : Nat} (hq : q < stN o) (hb : b < 256) : 0 ≤ stepM o (q : Int) b ∧ stepM o (q : Int) b < stN o := by
  cases o with
  | none =>
    have : q = 0 := by simp only [stN] at hq; omega
    subst this
    decide +revert
  | some A =>
    obtain ⟨pb, rfl, hown, hok, _⟩ := h
    exact stepM_range hok (by omega) (by simp only [stN] at hq; omega) hb
theorem AutoV.steps {S : Nat → Prop} {H : Heap} {v : Value} {o : Option AM} (h : AutoV S H v o) : StepOk o :=
  ⟨(stN_le h).1, (stN_le h).2, fun q b hq hb => by
    obtain ⟨n, rfl⟩ := Int.eq_ofNat_of_zero_le hq.1
    exact step_rng0 h (by have := hq.2; omega) hb⟩
/-- The bytes of reps stand for all. -/
theorem step_cov {o : Option AM} {ls : List Nat} (h : CellsOk o ls) {r c : Nat} (hr : r < 256) (hc : c < 256) (hs : ∀ s ∈ cellsM o, s.getLsbD r = s.getLsbD c) (q : Int) : stepM o q r = stepM o q c := by
  by_cases hq : q < 0 ∨ (stN o : Int) ≤ q
  · unfold stepM
    rw [if_pos hq, if_pos hq]
  · obtain ⟨k, s, hk, hb, -⟩ := h.part c hc
    obtain ⟨l, hl, -⟩ := h.least k s hk
    have e1 := (h.keeps k s l c hk hl hc hb).2 q (by omega) (by omega)
    have e2 := (h.keeps k s l r hk hl hr (by rw [hs s (List.mem_of_getElem? hk)]; exact hb)).2 q (by omega) (by omega)
    rw [e1, e2]
theorem graphOk {g : Gr} {by_ : List Nat} {M C : Nat} (R : Nd → Prop) (f : Nd → Nat) (h0 : R root) (hstep : ∀ n b t, R n → b < 256 → t ∈ g.next n b → R t) (hok : ∀ n, R n → n.Ok) (hf : ∀ n, R n → f n < M) (hi : ∀ n m, R n → R m → f n = f m → n = m)
    (hlen : ∀ n b, (g.next n b).length ≤ C) (c0 : 1 ≤ C) (big : C * (256 * M) ≤ 5864062014805) (hb : ∀ b ∈ by_, b < 256) (hnb : by_.length ≤ 256) : GraphOk g by_ M C := by
  have hR : ∀ n, Reach g by_ root n → R n := fun n h => by
    induction h with
    | refl => exact h0
    | step hr hb' ht ih => exact hstep _ _ _ ih (hb _ hb') ht
  refine ⟨hb, hnb, fun n hn => hok n (hR n hn), fun l hl hall => ?_, fun n b t _ _ => Nat.le_trans List.count_le_length (hlen n b), c0, big⟩
  rw [← List.length_map (f := f)]
  refine nodupN M _ (pwNodup hl fun x hx y hy e => hi x y (hR x (hall x hx)) (hR y (hall y hy)) e) fun x hx => ?_
  obtain ⟨n, hn, rfl⟩ := List.mem_map.1 hx
  exact hf n (hR n (hall n hn))
/-- Nodes of at most K stages behind the first. -/
structure InR (K : Nat) (n : Nd) : Prop where
  s0 : 0 ≤ n.s
  s1 : n.s ≤ K
  x0 : 0 ≤ n.x
  x1 : n.x < 65536
  y0 : 0 ≤ n.y
  y1 : n.y < 65536
  z : n.s = 0 → n.y = 0
def codeN (n : Nd) : Nat := if n.s = 0 then n.x.toNat else 65536 + (n.s.toNat - 1) * 4294967296 + n.x.toNat * 65536 + n.y.toNat
theorem InR.ok {K : Nat} {n : Nd} (hK : K ≤ 2) (h : InR K n) : n.Ok := by
  obtain ⟨h1, h2, h3, h4, h5, h6, h7⟩ := h
  refine ⟨?_, ?_, ?_⟩ <;> unfold inK <;> simp only [IntKind.min, IntKind.max, IntKind.signed, IntKind.bits] <;> constructor <;> simp <;> omega
theorem code_lt {K : Nat} {n : Nd} (h : InR K n) : codeN n < 65536 + K * 4294967296 := by
  obtain ⟨h1, h2, h3, h4, h5, h6, h7⟩ := h
  unfold codeN
  split
  · omega
  · have : (n.s.toNat - 1) + 1 ≤ K := by omega
    have := Nat.mul_le_mul_right 4294967296 this
    omega
theorem code_inj {K : Nat} {n m : Nd} (h : InR K n) (k : InR K m) (e : codeN n = codeN m) : n = m := by
  obtain ⟨h1, h2, h3, h4, h5, h6, h7⟩ := h
  obtain ⟨k1, k2, k3, k4, k5, k6, k7⟩ := k
  obtain ⟨s, x, y⟩ := n
  obtain ⟨s', x', y'⟩ := m
  simp only at *
  unfold codeN at e
  simp only at e
  have key : s = s' ∧ x = x' ∧ y = y' := by
    split at e <;> split at e
    · rename_i e1 e2; exact ⟨by omega, by omega, by rw [h7 e1, k7 e2]⟩
    · omega
    · omega
    · refine ⟨by omega, by omega, by omega⟩
  obtain ⟨rfl, rfl, rfl⟩ := key
  rfl
section
variable {a b : Option AM}
/-- Where Cat's readers can be. -/
def CatR (a b : Option AM) (n : Nd) : Prop := (n.s = 0 ∧ inA a n.x ∧ n.y = 0) ∨ (n.s = 1 ∧ inA b n.x ∧ inA a n.y) ∨ (n.s = 2 ∧ inA b n.x ∧ inA b n.y)
theorem CatR.inR (ha : StepOk a) (hb : StepOk b) {n : Nd} (h : CatR a b n) : InR 2 n := by
  have := ha.n2
  have := hb.n2
  rcases h with ⟨h1, ⟨h2, h3⟩, h4⟩ | ⟨h1, ⟨h2, h3⟩, h4, h5⟩ | ⟨h1, ⟨h2, h3⟩, h4, h5⟩ <;> constructor <;> omega
theorem cat_step (ha : StepOk a) (hb : StepOk b) : ∀ n c t, CatR a b n → c < 256 → t ∈ (catG a b).next n c → CatR a b t := by
  rintro ⟨s, x, y⟩ c t h hc ht
  rcases h with ⟨h1, h2, h3⟩ | ⟨h1, h2, h3⟩ | ⟨h1, h2, h3⟩ <;> simp only at h1 h2 h3 <;> subst h1
  · subst h3
    rcases cat_next0.1 ht with rfl | ⟨-, rfl⟩
    · exact .inl ⟨rfl, ha.step _ _ h2 hc, rfl⟩
    · exact .inr (.inl ⟨rfl, hb.step _ _ hb.zero hc, ha.step _ _ h2 hc⟩)
  · rcases cat_next1.1 ht with rfl | ⟨-, rfl⟩
    · exact .inr (.inl ⟨rfl, hb.step _ _ h2 hc, ha.step _ _ h3 hc⟩)
    · exact .inr (.inr ⟨rfl, hb.step _ _ h2 hc, hb.step _ _ hb.zero hc⟩)
  · obtain rfl := cat_next2.1 ht
    exact .inr (.inr ⟨rfl, hb.step _ _ h2 hc, hb.step _ _ h3 hc⟩)
theorem cat_len (n : Nd) (c : Nat) : ((catG a b).next n c).length ≤ 2 := by
  show (catNext a b n c).length ≤ 2
  unfold catNext
  split
  · split <;> simp
  · split
    · split <;> simp
    · simp
theorem cat_cov {n : Nd} {r c : Nat} (h1 : ∀ q, stepM a q r = stepM a q c) (h2 : ∀ q, stepM b q r = stepM b q c) : (catG a b).next n r = (catG a b).next n c := by
  show catNext a b n r = catNext a b n c
  unfold catNext
  simp only [h1, h2]
theorem cat_ok (ha : StepOk a) (hb : StepOk b) {by_ : List Nat} (h1 : ∀ b ∈ by_, b < 256) (h2 : by_.length ≤ 256) : GraphOk (catG a b) by_ (65536 + 2 * 4294967296) 2 :=
  graphOk (CatR a b) codeN (.inl ⟨rfl, ha.zero, rfl⟩) (cat_step ha hb) (fun n h => (h.inR ha hb).ok (by decide)) (fun n h => code_lt (h.inR ha hb)) (fun n m h k e => code_inj (h.inR ha hb) (k.inR ha hb) e) cat_len (by decide) (by decide) h1 h2
/-- Where Iter's readers can be. -/
def IterR (a : Option AM) (n : Nd) : Prop := (n.s = 0 ∧ inA a n.x ∧ n.y = 0) ∨ (n.s = 1 ∧ inA a n.x ∧ inA a n.y)
theorem IterR.inR (ha : StepOk a) {n : Nd} (h : IterR a n) : InR 1 n := by
  have := ha.n2
  rcases h with ⟨h1, ⟨h2, h3⟩, h4⟩ | ⟨h1, ⟨h2, h3⟩, h4, h5⟩ <;> constructor <;> omega
theorem moves_in (ha : StepOk a) {q t : Int} {c : Nat} (hq : inA a q) (hc : c < 256) (h : t ∈ moves a q c) : inA a t := by
  rcases mem_moves.1 h with rfl | ⟨-, rfl⟩
  · exact ha.step _ _ hq hc
  · exact ha.step _ _ ha.zero hc
theorem iter_step (ha : StepOk a) : ∀ n c t, IterR a n → c < 256 → t ∈ (iterG a).next n c → IterR a t := by
  rintro ⟨s, x, y⟩ c t h hc ht
  rcases h with ⟨h1, h2, h3⟩ | ⟨h1, h2, h3⟩ <;> simp only at h1 h2 h3 <;> subst h1
  · subst h3
    rcases iter_next0.1 ht with rfl | ⟨-, rfl⟩
    · exact .inl ⟨rfl, ha.step _ _ h2 hc, rfl⟩
    · exact .inr ⟨rfl, ha.step _ _ ha.zero hc, ha.step _ _ h2 hc⟩
  · obtain ⟨p, hp, q, hq, rfl⟩ := iter_next1.1 ht
    exact .inr ⟨rfl, moves_in ha h2 hc hp, moves_in ha h3 hc hq⟩
theorem moves_len (q : Int) (c : Nat) : (moves a q c).length ≤ 2 := by
  unfold moves
  split <;> simp
theorem iter_len (n : Nd) (c : Nat) : ((iterG a).next n c).length ≤ 4 := by
  show (iterNext a n c).length ≤ 4
  unfold iterNext
  split
  · split <;> simp
  · have h1 := moves_len (a := a) n.y c
    have h2 := moves_len (a := a) n.x c
    rw [List.length_flatMap]
    simp only [List.length_map]
    generalize moves a n.y c = ys at *
    generalize moves a n.x c = xs at *
    match xs, h2 with
    | [], _ => simp
    | [_], _ => simp; omega
    | [_, _], _ => simp; omega
theorem iter_cov {n : Nd} {r c : Nat} (h1 : ∀ q, stepM a q r = stepM a q c) : (iterG a).next n r = (iterG a).next n c := by
  show iterNext a n r = iterNext a n c
  unfold iterNext moves
  simp only [h1]
theorem iter_ok (ha : StepOk a) {by_ : List Nat} (h1 : ∀ b ∈ by_, b < 256) (h2 : by_.length ≤ 256) : GraphOk (iterG a) by_ (65536 + 1 * 4294967296) 4 :=
  graphOk (IterR a) codeN (.inl ⟨rfl, ha.zero, rfl⟩) (iter_step ha) (fun n h => (h.inR ha).ok (by decide)) (fun n h => code_lt (h.inR ha)) (fun n m h k e => code_inj (h.inR ha) (k.inR ha) e) iter_len (by decide) (by decide) h1 h2
/-- Where the readers of Meets can be. -/
def MeetR (a b : Option AM) (n : Nd) : Prop := n.s = 0 ∧ inA a n.x ∧ inA b n.y
theorem meet_ok (ha : StepOk a) (hb : StepOk b) {by_ : List Nat} (h1 : ∀ b ∈ by_, b < 256) (h2 : by_.length ≤ 256) : GraphOk (meetG a b) by_ 4294967296 1 := by
  have na := ha.n2
  have nb := hb.n2
  refine graphOk (MeetR a b) (fun n => n.x.toNat * 65536 + n.y.toNat) ⟨rfl, ha.zero, hb.zero⟩ (fun n c t h hc ht => ?_) (fun n h => ?_) (fun n h => ?_) (fun n m h k e => ?_) (fun n c => Nat.le_refl _) (by decide) (by decide) h1 h2
  · obtain rfl := List.mem_singleton.1 ht
    exact ⟨rfl, ha.step _ _ h.2.1 hc, hb.step _ _ h.2.2 hc⟩
  · obtain ⟨k1, ⟨k2, k3⟩, k4, k5⟩ := h
    refine ⟨?_, ?_, ?_⟩ <;> unfold inK <;> simp only [IntKind.min, IntKind.max, IntKind.signed, IntKind.bits] <;> constructor <;> simp <;> omega
  · obtain ⟨k1, ⟨k2, k3⟩, k4, k5⟩ := h
    omega
  · obtain ⟨k1, ⟨k2, k3⟩, k4, k5⟩ := h
    obtain ⟨l1, ⟨l2, l3⟩, l4, l5⟩ := k
    obtain ⟨s, x, y⟩ := n
    obtain ⟨s', x', y'⟩ := m
    simp only at *
    obtain ⟨rfl, rfl, rfl⟩ : s = s' ∧ x = x' ∧ y = y' := ⟨by omega, by omega, by omega⟩
    rfl
theorem meet_cov {n : Nd} {r c : Nat} (h1 : ∀ q, stepM a q r = stepM a q c) (h2 : ∀ q, stepM b q r = stepM b q c) : (meetG a b).next n r = (meetG a b).next n c := by
  show [_] = [_]
  rw [h1, h2]
end
/-- The bytes that reps gives, and those for which they stand. -/
theorem reps_cov2 {os : List (Option AM)} (hc : ∀ o ∈ os, ∃ ls, CellsOk o ls) {sets : List (BitVec 256)} (hs : ∀ o ∈ os, ∀ s ∈ cellsM o, s ∈ sets) : ∀ c, c < 256 → ∃ r ∈ repsM sets, r ≤ c ∧ ∀ o ∈ os, ∀ q, stepM o q r = stepM o q c := fun c hc8 => by
  obtain ⟨r, hr, hrc, hall⟩ := reps_cov sets hc8
  refine ⟨r, hr, hrc, fun o ho q => ?_⟩
  obtain ⟨ls, h⟩ := hc o ho
  exact step_cov h (reps_lt sets r hr) hc8 (fun s h => hall s (hs o ho s h)) q
theorem reps_len2 (sets : List (BitVec 256)) : (repsM sets).length ≤ 256 := by
  have := reps_len sets
  unfold repsM
  rw [List.length_map]; exact this
end Go.Proofs.Ytpnnedkpbmilkaa

/- Texts and their cuts; plain law. -/
set_option linter.unusedVariables false
set_option linter.unusedSimpArgs false
set_option maxRecDepth 100000
namespace Go.Proofs.Ytpnnedkpbmilkaa
open Go.VC
attribute [local irreducible] mRun gRun atRun
theorem bA_size (w : List Nat) : (bA w).size = w.length := by unfold bA; simp [ByteArray.size]
theorem bA_data (w : List Nat) : (bA w).data.toList = w.map UInt8.ofNat := by unfold bA; simp
theorem bA_ext (w : List Nat) (i j : Nat) : (bA w).extract i j = bA ((w.take j).drop i) := by
  apply text_inj
  rw [ByteArray.data_extract, Array.toList_extract, bA_data, bA_data, List.extract_eq_take_drop, List.map_drop, List.map_take, List.drop_take]
theorem bA_zero (w : List Nat) (i : Nat) : (bA w).extract 0 i = bA (w.take i) := by rw [bA_ext]; rfl
theorem bA_last (w : List Nat) (i : Nat) : (bA w).extract i (bA w).size = bA (w.drop i) := by rw [bA_ext, bA_size, List.take_length]
theorem acc_bA {o : Option AM} {w : List Nat} (h : bytes_ w) : acceptsM o (bA w) = accL o w := by
  unfold acceptsM accL runM runL
  rw [bA_size, bA_data, List.take_of_length_le (by simp), List.foldl_map]
  congr 1
  have : ∀ (w : List Nat) (q : Int), bytes_ w → w.foldl (fun q b => stepM o q (UInt8.ofNat b).toNat) q = w.foldl (fun q b => stepM o q b) q := fun w => by
    induction w with
    | nil => intro q _; rfl
    | cons c w ih =>
      intro q hb
      have hc := hb c List.mem_cons_self
      have e : (UInt8.ofNat c).toNat = c := by simp; omega
      rw [List.foldl_cons, List.foldl_cons, e]
      exact ih _ fun d hd => hb d (List.mem_cons_of_mem _ hd)
  exact this w 0 h
theorem bytes_take {w : List Nat} (h : bytes_ w) (i : Nat) : bytes_ (w.take i) := fun b hb => h b (List.mem_of_mem_take hb)
theorem bytes_drop {w : List Nat} (h : bytes_ w) (i : Nat) : bytes_ (w.drop i) := fun b hb => h b (List.mem_of_mem_drop hb)
/-- The bytes of a text. -/
def unB (s : ByteArray) : List Nat := s.data.toList.map UInt8.toNat
theorem unB_bytes (s : ByteArray) : bytes_ (unB s) := fun b hb => by
  obtain ⟨x, -, rfl⟩ := List.mem_map.1 hb
  exact UInt8.toNat_lt x
theorem bA_unB (s : ByteArray) : bA (unB s) = s := by
  apply text_inj
  rw [bA_data]
  unfold unB
  rw [List.map_map]
  conv => rhs; rw [← List.map_id s.data.toList]
  apply List.map_congr_left
  intro x _
  simp
theorem unB_bA {w : List Nat} (h : bytes_ w) : unB (bA w) = w := by
  unfold unB
  rw [bA_data, List.map_map]
  conv => rhs; rw [← List.map_id w]
  apply List.map_congr_left
  intro x hx
  have := h x hx
  simp; omega
/-- i is a cut of s. -/
def CutM (a b : Option AM) (s : ByteArray) (i : Nat) : Bool := acceptsM a (s.extract 0 i) && acceptsM b (s.extract i s.size)
theorem cut_bA {a b : Option AM} {w : List Nat} (h : bytes_ w) (i : Nat) : CutM a b (bA w) i = true ↔ CutL a b w 0 i := by
  unfold CutM
  rw [bA_zero, bA_last, acc_bA (bytes_take h i), acc_bA (bytes_drop h i), Bool.and_eq_true]; rfl
/-- What Cat answers. -/
def CatAns (a b : Option AM) (t : ByteArray) (i j : Nat) (ok : Bool) : Prop :=
  (ok = true → ∃ w, t = bA w ∧ FirstW (catG a b) (· = root) w ∧ i < j ∧ j ≤ w.length ∧ CutM a b t i = true ∧ CutM a b t j = true ∧ (∀ k, k < i → CutM a b t k = false) ∧ ∀ k, i < k → k < j → CutM a b t k = false) ∧
  (ok = false → t = ⟨#[]⟩ ∧ i = 0 ∧ j = 0 ∧ ∀ u, bytes_ u → ¬ LeadsP (catG a b) (· = root) u)
theorem first_uniq {f : Nat → Bool} {l i j : Nat} (hl : l ≤ i) (hm : l ≤ j) (h1 : f i = true) (h2 : f j = true) (h3 : ∀ k, l ≤ k → k < i → f k = false) (h4 : ∀ k, l ≤ k → k < j → f k = false) : i = j := by
  rcases Nat.lt_trichotomy i j with h | h | h
  · have := h4 i hl h; rw [h1] at this; cases this
  · exact h
  · have := h3 j hm h; rw [h2] at this; cases this
theorem CatAns.uniq {a b : Option AM} {t t' : ByteArray} {i i' j j' : Nat} {ok ok' : Bool} (h : CatAns a b t i j ok) (k : CatAns a b t' i' j' ok') : t = t' ∧ i = i' ∧ j = j' ∧ ok = ok' := by
  cases ok <;> cases ok'
  · obtain ⟨rfl, rfl, rfl, -⟩ := h.2 rfl
    obtain ⟨rfl, rfl, rfl, -⟩ := k.2 rfl
    exact ⟨rfl, rfl, rfl, rfl⟩
  · obtain ⟨w, -, hw, -⟩ := k.1 rfl
    exact absurd hw.1.2.2.1 ((h.2 rfl).2.2.2 w hw.1.2.1)
  · obtain ⟨w, -, hw, -⟩ := h.1 rfl
    exact absurd hw.1.2.2.1 ((k.2 rfl).2.2.2 w hw.1.2.1)
  · obtain ⟨w, rfl, h1, h2, h3, h4, h5, h6, h7⟩ := h.1 rfl
    obtain ⟨v, rfl, k1, k2, k3, k4, k5, k6, k7⟩ := k.1 rfl
    obtain rfl := h1.uniq k1
    obtain rfl := first_uniq (f := CutM a b (bA w)) (Nat.zero_le _) (Nat.zero_le _) h4 k4 (fun k _ => h6 k) (fun k _ => k6 k)
    obtain rfl := first_uniq (f := CutM a b (bA w)) (l := i + 1) h2 k2 h5 k5 (fun k hk => h7 k hk) (fun k hk => k7 k hk)
    exact ⟨rfl, rfl, rfl, rfl⟩
theorem FirstW.leads {g : Gr} {w : List Nat} (h : FirstW g (· = root) w) : Leads g w root := by
  obtain ⟨n, rfl, hn⟩ := h.1.2.2.1
  exact hn
theorem FirstW.bytes {g : Gr} {w : List Nat} (h : FirstW g (· = root) w) : bytes_ w := h.1.2.1
/-- The first place from l on. -/
theorem least_from {f : Nat → Bool} {l i : Nat} (hl : l ≤ i) (h : f i = true) : ∃ r, l ≤ r ∧ r ≤ i ∧ f r = true ∧ ∀ k, l ≤ k → k < r → f k = false := by
  have key : ∀ d l, i - l = d → l ≤ i → ∃ r, l ≤ r ∧ r ≤ i ∧ f r = true ∧ ∀ k, l ≤ k → k < r → f k = false := fun d => by
    induction d with
    | zero =>
      intro l hd hl
      obtain rfl : l = i := by omega
      exact ⟨l, Nat.le_refl _, Nat.le_refl _, h, fun k h1 h2 => by omega⟩
    | succ d ih =>
      intro l hd hl
      by_cases hf : f l = true
      · exact ⟨l, Nat.le_refl _, hl, hf, fun k h1 h2 => by omega⟩
      · obtain ⟨r, h1, h2, h3, h4⟩ := ih (l + 1) (by omega) (by omega)
        refine ⟨r, by omega, h2, h3, fun k k1 k2 => ?_⟩
        by_cases hk : k = l
        · subst hk; simpa using hf
        · exact h4 k (by omega) k2
  exact key _ l rfl hl
/-- A word that leads to an end has two cuts: the first ones. -/
theorem two_cuts {a b : Option AM} {w : List Nat} (hb : bytes_ w) (h : Leads (catG a b) w root) : ∃ i j, i < j ∧ j ≤ w.length ∧ CutM a b (bA w) i = true ∧ CutM a b (bA w) j = true ∧ (∀ k, k < i → CutM a b (bA w) k = false) ∧ ∀ k, i < k → k < j → CutM a b (bA w) k = false := by
  obtain ⟨i, j, h1, h2, h3, h4⟩ := (cat_root a b w).1 h
  obtain ⟨r, -, hr, hc, hlt⟩ := least_from (f := CutM a b (bA w)) (l := 0) (Nat.zero_le i) ((cut_bA hb i).2 h3)
  obtain ⟨s, hs, hsj, hc2, hlt2⟩ := least_from (f := CutM a b (bA w)) (l := r + 1) (i := j) (by omega) ((cut_bA hb j).2 h4)
  exact ⟨r, s, by omega, by omega, hc, hc2, fun k hk => hlt k (Nat.zero_le _) hk, fun k h1 h2 => hlt2 k (by omega) h2⟩
end Go.Proofs.Ytpnnedkpbmilkaa
