/- The document's file system: plain places of names; append of what lies anywhere; find, lay: the walks. -/
import Derived.Test.YtfdlhakfmbdamaaDoorPFs8
import Derived.Test.YtfdlhakfmbdamaaDoorVElem
set_option linter.unusedVariables false
set_option linter.unusedSimpArgs false
set_option maxRecDepth 100000
namespace Go.VC
theorem vltS {P : Program} {t : TypeId} {x y : Operand} {a b : ByteArray} {S : Nat → Prop} {H : Heap} {K : Value → Prop} (k : K (.bool (Op.bytesLess a.toList b.toList))) : VDet P (do eqGuard .lss t x y (.string a) (.string b); binOp .lss t (.string a) (.string b)) S H K := by
  refine VDet.mk _ (fun w _ => ?_) k
  simp [run_eqGuard_string, binOp, Op.stringOp]
theorem vgeS {P : Program} {t : TypeId} {x y : Operand} {a b : ByteArray} {S : Nat → Prop} {H : Heap} {K : Value → Prop} (k : K (.bool (!Op.bytesLess a.toList b.toList))) : VDet P (do eqGuard .geq t x y (.string a) (.string b); binOp .geq t (.string a) (.string b)) S H K := by
  refine VDet.mk _ (fun w _ => ?_) k
  simp [run_eqGuard_string, binOp, Op.stringOp]
theorem less_dec : ∀ (x y : List UInt8), Op.bytesLess x y = decide (x < y)
  | [], [] => by simp [Op.bytesLess]
  | _ :: _, [] => by simp [Op.bytesLess]
  | [], _ :: _ => by simp [Op.bytesLess]
  | a :: x, b :: y => by
    rw [Op.bytesLess, less_dec x y]
    simp only [List.cons_lt_cons_iff]
    by_cases h1 : a < b <;> by_cases h2 : a = b <;> by_cases h3 : x < y <;> simp [h1, h2, h3]
section
variable {α : Type} {T : Ty α} {S : Nat → Prop} {e : TypeId} {a : Option Addr} {n cap : Nat} {xs ys : List α} {B : Nat → Prop} {H0 H : Heap} {ps : List Pc}
theorem appZ {P : Program} {t ty by_ cap2 : Nat} {z : Value} {a2 : Option Addr} {K : Value → Heap → Prop} (st : StB B H0 H ps) (i : Nat) (ht : SlT P t e T.size by_ z) (hp : ps[i]? = some (pS T e a n cap xs))
    (h63 : xs.length ≤ 34359738368) (hby : by_ ≤ 1024)
    (k : ∀ a' cap' H', StB B H0 H' (ps.set i (pS T e a' xs.length cap' xs)) → Agr (fun k => k < H.size ∧ ¬ slB (.slice a n cap) k) H H' → K (.slice a' xs.length cap') H') :
    VEff P (Builtin.append_ #[t, t] ty [.slice a n cap, .slice a2 0 cap2].toArray) H K := by
  obtain ⟨cs, hsl, hr⟩ := (st.at_ i hp).1
  have fin : ∀ v' H', Sl H' 0 e T.size v' (xs.length + 0) (cs ++ []) → Agr (fun k => k < H.size ∧ ¬ slB (.slice a n cap) k) H H' → H.size ≤ H'.size → (∀ k, slB v' k → slB (.slice a n cap) k ∨ H.size ≤ k) → K v' H' := fun v' H' hsl' hagr hsz hfr => by
    have hown : SlO T none_ H' 0 e v' xs := ⟨cs, by simpa using hsl', Ty.reps_frame (hagr.mono fun k hk => hk.elim) hr⟩
    obtain ⟨a', cap', rfl⟩ := hown.hull
    refine k a' cap' H' (st.upd i hp (hagr.mono fun k hk => ⟨hk.1, fun hb => hk.2 (.inl hb)⟩) _ ⟨hown, fun k hk => hk.elim⟩ (fun k hk => ?_) (fun k hk => ?_) hsz) hagr
    · rcases hk with hk | hk
      · rcases hfr k hk with h | h
        · exact .inl (.inl h)
        · exact .inr h
      · exact hk.elim
    · rcases hk with hk | hk
      · exact (hown.lt hk).2
      · exact hk.elim
  have hb1 : (xs.length + 0) * by_ ≤ 140737488355328 := by have := Nat.mul_le_mul h63 hby; rw [Nat.add_zero]; omega
  cases a2 with
  | some ad => exact vappend (m := 0) (news := []) ht hsl (Nat.zero_le _) (fun w hw => Src.ofSlice w ht.under _ 0 cap2 [] (by simp) (fun j u hu => by simp at hu) (fun u hu => by cases hu)) (by unfold maxLen; omega) hb1 fin
  | none =>
    by_cases hc : cap2 = 0
    · subst hc
      exact vappend (m := 0) (news := []) ht hsl (Nat.zero_le _) (fun w hw => Src.ofNil w ht.under 0) (by unfold maxLen; omega) hb1 fin
    · exact vappend (m := 0) (news := []) ht hsl (Nat.zero_le _) (fun w hw => Src.ofNil w ht.under cap2) (by unfold maxLen; omega) hb1 fin
/-- append of what lies anywhere. -/
theorem appD {P : Program} {t ty by_ cap2 : Nat} {z : Value} {a2 : Option Addr} {K : Value → Heap → Prop} (hF : T.Free) (h1 : T.Ones) (st : StB B H0 H ps) (i : Nat) (ht : SlT P t e T.size by_ z) (hp : ps[i]? = some (pS T e a n cap xs))
    (hy : SlD T S H a2 cap2 ys) (h63 : xs.length + ys.length ≤ 34359738368) (hby : by_ ≤ 1024)
    (k : ∀ a' cap' H', StB B H0 H' (ps.set i (pS T e a' (xs.length + ys.length) cap' (xs ++ ys))) → Agr (fun k => k < H.size ∧ ¬ slB (.slice a n cap) k) H H' → K (.slice a' (xs.length + ys.length) cap') H') :
    VEff P (Builtin.append_ #[t, t] ty [.slice a n cap, .slice a2 ys.length cap2].toArray) H K := by
  have hz : ys = [] → VEff P (Builtin.append_ #[t, t] ty [.slice a n cap, .slice a2 ys.length cap2].toArray) H K := fun e => by
    subst e
    exact appZ st i ht hp (by simpa using h63) hby fun a' c' H' st' ag => by
      have := k a' c' H'
      rw [List.append_nil] at this
      exact this st' ag
  cases a2 with
  | some ad =>
    obtain ⟨q, o, sp⟩ := ad
    obtain ⟨h3, h4, h0 | ⟨rfl, h2, ec, h5, h6⟩⟩ := hy
    · exact hz (List.eq_nil_of_length_eq_zero (by omega))
    · exact appO st i ht hp h5 (hF.reps h6) rfl (h1.reps h6) h63 hby k
  | none => exact hz hy.1
/-- The first elements. -/
theorem SlD.take {cap : Nat} (h : SlD T S H a cap xs) (i : Nat) : SlD T S H a cap (xs.take i) := by
  cases a with
  | none =>
    obtain ⟨rfl, rfl⟩ := h
    exact ⟨by simp, rfl⟩
  | some ad =>
    obtain ⟨h3, h4, h0 | ⟨hsp, h2, ec, h5, h6⟩⟩ := h
    · exact ⟨by rw [List.length_take]; omega, h4, .inl h0⟩
    · obtain ⟨l, r, rfl, hl, hr⟩ : ∃ l r, ec = l ++ r ∧ T.reps S H l (xs.take i) ∧ True := by
        clear h3 h5
        induction xs generalizing ec i with
        | nil => exact ⟨[], ec, rfl, by simp [Ty.reps], trivial⟩
        | cons x xs ih =>
          cases i with
          | zero => exact ⟨[], ec, rfl, by simp [Ty.reps], trivial⟩
          | succ i =>
            obtain ⟨c, r, rfl, hc, hr⟩ := h6
            obtain ⟨l', r', rfl, hl', -⟩ := ih i r hr
            exact ⟨c ++ l', r', by rw [List.append_assoc], ⟨c, l', rfl, hc, hl'⟩, trivial⟩
      exact ⟨by rw [List.length_take]; omega, h4, .inr ⟨hsp, h2, l, h5.left, hl⟩⟩
end
theorem replace_perm {α : Type} {l : List α} {i : Nat} {p q : α} (h : l[i]? = some p) : (l ++ [q]).Perm (p :: l.set i q) := by
  have hi := (List.getElem?_eq_some_iff.1 h).1
  have h1 : (p :: l.eraseIdx i).Perm l := by
    induction l generalizing i with
    | nil => simp at h
    | cons a l ih =>
      cases i with
      | zero =>
        have : a = p := by simpa using h
        subst this
        exact List.Perm.refl _
      | succ i =>
        have h2 : l[i]? = some p := by simpa using h
        exact (List.Perm.swap a p _).trans ((ih h2 (List.getElem?_eq_some_iff.1 h2).1).cons a)
  have h2 : (q :: l.eraseIdx i).Perm (l.set i q) := by
    clear h h1
    induction l generalizing i with
    | nil => simp at hi
    | cons a l ih =>
      cases i with
      | zero => exact List.Perm.refl _
      | succ i => exact (List.Perm.swap a q _).trans ((ih (by simpa using hi)).cons a)
  exact (List.perm_append_singleton q l).trans ((h1.symm.cons q).trans ((List.Perm.swap p q _).trans (h2.cons p)))
end Go.VC
namespace Go.Proofs.YtfdlhakfmbdamaaDoor
open Go.VC
theorem less_ltT (a b : ByteArray) : Op.bytesLess a.toList b.toList = ltT a b := by
  rw [ByteArray.toList_eq, ByteArray.toList_eq, less_dec]; rfl
theorem tStr_free : tStr.Free := fun S S' H H' cs x h => h
theorem tStr_ones : tStr.Ones := by
  rintro S H cs x ⟨rfl, _⟩ u hu
  cases List.mem_singleton.1 hu; rfl
theorem tPair_free {α β : Type} {T : Ty α} {U : Ty β} (h1 : T.Free) (h2 : U.Free) : (tPair T U).Free := by
  rintro S S' H H' cs x ⟨c, d, e, h3, h4⟩
  exact ⟨c, d, e, h1 _ _ _ _ _ _ h3, h2 _ _ _ _ _ _ h4⟩
theorem tPair_ones {α β : Type} {T : Ty α} {U : Ty β} (h1 : T.Ones) (h2 : U.Ones) : (tPair T U).Ones := by
  rintro S H cs x ⟨c, d, rfl, h3, h4⟩ u hu
  rcases List.mem_append.1 hu with hu | hu
  · exact h1 S H c _ h3 u hu
  · exact h2 S H d _ h4 u hu
theorem file_free : tFile.Free := tPair_free tStr_free tStr_free
theorem file_ones : tFile.Ones := tPair_ones tStr_ones tStr_ones
theorem brk_free : tBrk.Free := tPair_free tBool_free (tPair_free (tInt_free _) (tInt_free _))
theorem brk_ones : tBrk.Ones := tPair_ones tBool_ones (tPair_ones (tInt_ones _) (tInt_ones _))
/-- The place of a name; is it there? -/
def posM : List (ByteArray × ByteArray) → ByteArray → Nat
  | [], _ => 0
  | p :: r, n => if ltT p.1 n then posM r n + 1 else 0
def thereM (l : List (ByteArray × ByteArray)) (n : ByteArray) : Bool := match l[posM l n]? with
  | some p => decide (p.1 = n)
  | none => false
theorem pos_le : ∀ (l : List (ByteArray × ByteArray)) (n : ByteArray), posM l n ≤ l.length
  | [], _ => Nat.le_refl _
  | p :: r, n => by
    unfold posM
    have := pos_le r n
    split <;> simp <;> omega
theorem pos_at : ∀ {l : List (ByteArray × ByteArray)} {n : ByteArray} {i : Nat}, (∀ j p, j < i → l[j]? = some p → ltT p.1 n = true) → i ≤ l.length → (∀ p, l[i]? = some p → ltT p.1 n = false) → posM l n = i
  | [], n, i, _, h2, _ => by simp at h2; subst h2; rfl
  | p :: r, n, 0, _, _, h3 => by
    have := h3 p rfl
    unfold posM
    rw [this]; rfl
  | p :: r, n, i + 1, h1, h2, h3 => by
    have := h1 0 p (by omega) rfl
    unfold posM
    rw [if_pos this, pos_at (i := i) (fun j q hj hq => h1 (j + 1) q (by omega) hq) (by simpa using h2) fun q hq => h3 q hq]
theorem there_cons {p : ByteArray × ByteArray} {r : List (ByteArray × ByteArray)} {n : ByteArray} : thereM (p :: r) n = if ltT p.1 n then thereM r n else decide (p.1 = n) := by
  unfold thereM
  rw [show posM (p :: r) n = if ltT p.1 n then posM r n + 1 else 0 from rfl]
  by_cases h : ltT p.1 n = true
  · rw [if_pos h, if_pos h]; rfl
  · rw [if_neg h, if_neg h]; rfl
theorem there_look : ∀ {l : List (ByteArray × ByteArray)} (n : ByteArray), Rise l → thereM l n = (lookF l n).isSome
  | [], n, _ => rfl
  | p :: r, n, h => by
    obtain ⟨h1, h2⟩ := List.pairwise_cons.1 h
    rw [there_cons]
    unfold lookF
    rw [List.find?_cons]
    by_cases hl : ltT p.1 n = true
    · rw [if_pos hl, decide_eq_false (ltT_ne hl)]
      exact there_look n h2
    · rw [if_neg hl]
      by_cases he : p.1 = n
      · rw [decide_eq_true he]; rfl
      · rw [decide_eq_false he]
        have hg := ltT_total (by simpa using hl) he
        have : r.find? (fun q => decide (q.1 = n)) = none := List.find?_eq_none.2 fun q hq => by
          have h3 := ltT_trans hg (h1 q hq)
          simp only [decide_eq_true_eq]
          exact fun e => ltT_ne h3 e.symm
        simp only [this, Option.map_none, Option.isSome_none]
theorem lay_there : ∀ {l : List (ByteArray × ByteArray)} {n d : ByteArray}, thereM l n = true → layM l n d = l.set (posM l n) (n, d)
  | [], n, d, h => by cases h
  | p :: r, n, d, h => by
    rw [there_cons] at h
    unfold layM posM
    by_cases hl : ltT p.1 n = true
    · rw [if_pos hl] at h ⊢
      rw [if_pos hl, lay_there h]; rfl
    · rw [if_neg hl] at h ⊢
      rw [if_neg hl, if_pos (of_decide_eq_true h)]; rfl
theorem lay_new : ∀ {l : List (ByteArray × ByteArray)} {n d : ByteArray}, thereM l n = false → layM l n d = l.take (posM l n) ++ [(n, d)] ++ l.drop (posM l n)
  | [], n, d, _ => rfl
  | p :: r, n, d, h => by
    rw [there_cons] at h
    unfold layM posM
    by_cases hl : ltT p.1 n = true
    · rw [if_pos hl] at h ⊢
      rw [if_pos hl, lay_new h]; rfl
    · rw [if_neg hl] at h ⊢
      rw [if_neg hl, if_neg (of_decide_eq_false h)]; rfl
/-- The document's file system in memory. -/
def docC (fa : Option Addr) (fc : Nat) (ba : Option Addr) (bc : Nat) (x : Fs) : List Value := [.slice fa x.files.length fc, .slice ba x.fails.length bc, .int .i64 (x.reads : Int), .int .i64 (x.writes : Int)]
structure DocAt (ps : List Pc) (j sd : Nat) (fa : Option Addr) (fc : Nat) (ba : Option Addr) (bc : Nat) (x : Fs) : Prop where
  p0 : ps[j]? = some (pB 55 sd (docC fa fc ba bc x))
  p1 : ps[j + 1]? = some (pS tFile 65 fa x.files.length fc x.files)
  p2 : ps[j + 2]? = some (pS tBrk 69 ba x.fails.length bc x.fails)
set_option maxHeartbeats 8000000 in
theorem find_p {S : Nat → Prop} {H : Heap} {sd : Nat} {l : List Value} {files : List (ByteArray × ByteArray)} {fa : Option Addr} {fc : Nat} {name : ByteArray} (hb : Blk H sd 55 l) (h0 : l[0]? = some (.slice fa files.length fc)) (hv : SlD tFile S H fa fc files) (hS : ∀ k, S k → k < H.size) :
    Pure Tryd.prog 26 #[.pointer (some ⟨sd, 0, none⟩), .string name] H (.tuple #[.int .i64 (posM files name : Int), .bool (thereM files name)]) := by
  have hlen := hv.le
  unfold maxLen at hlen
  refine FnOk.of_vc Tryd.func26 rfl (Tryd.call26 _) ?_
  (conv => whnf)
  refine VLoop.mk [6] (fun k : Nat => [.int .i64 (k : Int)]) (fun k G => k ≤ files.length ∧ (∀ j p, j < k → files[j]? = some p → ltT p.1 name = true) ∧ Agr (Old H) H G) (fun k _ => files.length - k) ?_ ?_
  · (conv => whnf)
    exact ⟨0, rfl, Nat.zero_le _, (fun j p hj => absurd hj (Nat.not_lt_zero _)), Agr.refl _ _⟩
  · rintro k G junk ⟨hk, hlt, hag⟩
    have hbG := hb.agr hag hb.lt
    have hvG := hv.frame (hag.mono hS)
    have hl0 : VC.cell G sd (0 + 0) = some (.slice fa files.length fc) := by rw [hbG.cell]; exact h0
    have hSG : ∀ q, S q → q < G.size := fun q hq => old_lt hag (hS q hq)
    (conv => whnf); refine VC.fa fl55_0 ?_
    (conv => whnf); refine ld1 ct52 hl0 trivial ?_
    by_cases hkl : k < files.length
    · obtain ⟨p, hpk⟩ : ∃ p, files[k]? = some p := ⟨files[k], List.getElem?_eq_getElem hkl⟩
      have d1 : decide ((k : Int) < (files.length : Int)) = true := decide_eq_true (by omega)
      (conv => whnf); rw [d1]
      (conv => whnf); refine VC.fa fl55_0 ?_
      (conv => whnf); refine ld1 ct52 hl0 trivial ?_
      (conv => whnf); refine ixr sl52 hvG hpk rfl ?_
      intro b2 o2 c2 hb2 hc2 hr2
      obtain ⟨rfl, -, -⟩ := file_rep hr2
      (conv => whnf); refine VC.fa fl65_0 ?_
      (conv => whnf); refine ld1 (v := .string p.1) ct9 (hc2 0 _ rfl) trivial ?_
      (conv => whnf); refine vltS ?_
      rw [less_ltT]
      cases hlp : ltT p.1 name with
      | true =>
        (conv => whnf); rw [w64 (x := (k : Int) + 1) (by omega) (by omega)]
        refine ⟨rfl, k + 1, rfl, ⟨by omega, fun j q hj hq => ?_, hag⟩, by omega⟩
        by_cases hjk : j = k
        · subst hjk
          rw [hpk] at hq; cases hq; exact hlp
        · exact hlt j q (by omega) hq
      | false =>
        have hpos : posM files name = k := pos_at hlt (by omega) fun q hq => by rw [hpk] at hq; cases hq; exact hlp
        have hth : thereM files name = decide (p.1 = name) := by unfold thereM; rw [hpos, hpk]
        (conv => whnf); refine VDraw.quiet (Old G) rfl (by kernel_rfl) ?_
        (conv => whnf); refine VC.fa fl55_0 ?_
        (conv => whnf); refine ld1 ct52 hl0 hbG.lt ?_
        (conv => whnf); rw [d1]
        (conv => whnf); refine VC.fa fl55_0 ?_
        (conv => whnf); refine ld1 ct52 hl0 hbG.lt ?_
        (conv => whnf); refine ixr sl52 hvG hpk rfl ?_
        intro b3 o3 c3 hb3 hc3 hr3
        obtain ⟨rfl, -, -⟩ := file_rep hr3
        (conv => whnf); refine VC.fa fl65_0 ?_
        (conv => whnf); refine ld1 (v := .string p.1) ct9 (hc3 0 _ rfl) (hSG _ hb3) ?_
        (conv => whnf); rw [txt_dec]
        (conv => whnf)
        intro G2 hg2
        (conv => whnf)
        rw [hpos, hth]
        exact ⟨rfl, hag.trans (hg2.mono fun q hq => old_lt hag hq)⟩
    · have hkn : k = files.length := by omega
      have d1 : decide ((k : Int) < (files.length : Int)) = false := decide_eq_false (by omega)
      have hnone : files[k]? = none := List.getElem?_eq_none (by omega)
      have hpos : posM files name = k := pos_at hlt (by omega) fun q hq => by rw [hnone] at hq; cases hq
      have hth : thereM files name = false := by unfold thereM; rw [hpos, hnone]
      (conv => whnf); rw [d1]
      (conv => whnf); refine VDraw.quiet (Old G) rfl (by kernel_rfl) ?_
      (conv => whnf); refine VC.fa fl55_0 ?_
      (conv => whnf); refine ld1 ct52 hl0 hbG.lt ?_
      (conv => whnf); rw [d1]
      (conv => whnf)
      intro G2 hg2
      (conv => whnf)
      rw [hpos, hth]
      exact ⟨rfl, hag.trans (hg2.mono fun q hq => old_lt hag hq)⟩
end Go.Proofs.YtfdlhakfmbdamaaDoor
