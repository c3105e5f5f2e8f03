/- louperef08.Least. -/
import Derived.Test.YtkgmhkcncemmkaaPBoth
import Derived.Test.YtkgmhkcncemmkaaPWrd3
import Derived.Test.YtkgmhkcncemmkaaVMore
set_option linter.unusedVariables false
set_option linter.unusedSimpArgs false
set_option maxRecDepth 100000
namespace Go.Proofs.Ytkgmhkcncemmkaa
open Go.VC
attribute [local irreducible] mRun gRun atRun

def seenL (n : Nat) (F : List FW) : List Bool := (List.range n).map fun (t : Nat) => hasS F (t : Int)
theorem seenL_len (n : Nat) (F : List FW) : (seenL n F).length = n := by simp [seenL]
theorem seenL_get {n : Nat} (F : List FW) {t : Nat} (h : t < n) : (seenL n F)[t]? = some (hasS F (t : Int)) := by
  unfold seenL
  rw [List.getElem?_map, List.getElem?_range h]; rfl
theorem seenL_set {n : Nat} (F : List FW) {t : Nat} (w : ByteArray) (h : t < n) : (seenL n F).set t true = seenL n (F ++ [((t : Int), w)]) := by
  apply List.ext_getElem?
  intro j
  by_cases hj : j < n
  · rw [seenL_get _ hj, List.getElem?_set, seenL_len, hasS_append]
    by_cases ht : t = j
    · subst ht; rw [if_pos rfl, if_pos hj]; simp [hasS]
    · rw [if_neg ht, seenL_get _ hj]
      have : hasS [((t : Int), w)] (j : Int) = false := by simp [hasS]; omega
      rw [this, Bool.or_false]
  · rw [List.getElem?_eq_none (by rw [List.length_set, seenL_len]; omega), List.getElem?_eq_none (by rw [seenL_len]; omega)]

set_option maxHeartbeats 8000000 in
theorem refleast_p {S : Nat → Prop} {H : Heap} {v : Value} {o : Option AM} {D : DM} (hS : ∀ k, S k → k < H.size) (hv : DfaV S H v D) (hB : Both o D) :
    Pure Try.prog 21 #[v] H (.tuple #[.string ((leastM o).getD ⟨#[]⟩), .bool (leastM o).isSome]) := by
  have hl := hv.len
  have hok := hB.ok
  have hn1 := hok.n1
  have hn2 := hok.n2
  have hN := hB.n
  have hst : StepIn o := fun q b h0 h1 hb => by
    have := stepD_range hok (q := q) (b := b) h0 (by omega) hb
    rw [hB.step q b hb, hN]; exact this
  refine FnOk.of_vc Try.func21 rfl (Try.call21 _) ?_
  (conv => whnf); refine dfa_box hv fun ra rc na nc fa fc he a1 a2 a3 => ?_
  subst he
  intro pa H1 hpa hs1 hb1 ha1
  have st1 := (St.nil H).box hpa hs1 hb1 ha1
  have up : ∀ {H' : Heap}, Agr (Old H) H H' → ∀ k, S k → k < H'.size := fun h k hk => old_lt h (hS k hk)
  (conv => whnf); refine VC.fa fl38_2 ?_
  (conv => whnf); refine ld1 ct23 (by rw [(st1.blk 0 rfl).cell, Nat.zero_add]; exact dfaL_257 hl) trivial ?_
  (conv => whnf); refine vmake1 sl24 rfl (by omega) (by omega) (by omega) (by omega) ?_
  intro sb H2 hsb hs2 hb2 ha2
  rw [Int.toNat_natCast] at hb2
  rw [Int.toNat_natCast]
  have st2 := st1.new (T := tBool) (n := D.next.length) (xs := List.replicate D.next.length false) hsb hs2 hb2 ha2 (reps_of_ones (by simp) fun i v x h1 h2 => by
    rw [List.getElem?_replicate] at h1 h2
    split at h1
    · rename_i hi; rw [if_pos hi] at h2; cases h1; cases h2; exact rfl
    · cases h1) (by simp) (by unfold maxLen; omega)
  have hseen0 : (List.replicate D.next.length false).set 0 true = seenL D.next.length (bfs o 0) := by
    have e : List.replicate D.next.length false = seenL D.next.length [] := by
      unfold seenL
      rw [show (fun (t : Nat) => hasS ([] : List FW) (t : Int)) = fun _ => false from rfl, List.map_const']; simp
    rw [e, seenL_set [] ⟨#[]⟩ (by omega)]; rfl
  (conv => whnf); refine ix sl24 (by omega) (by omega) ?_
  (conv => whnf); refine st1O (x := true) st2 1 ct4 rfl rfl (j := 0) rfl (by simp; omega) rfl (fun _ _ => rfl) fun H3 st3 => ?_
  rw [hseen0] at st3
  (conv => whnf); refine vbuild1 sl36 [.int .i64 0] rfl rfl (by decide) (by decide) ?_
  intro b4 H4 hq4 hs4 hb4 ha4
  have st4 := st3.new (T := tI) (n := 1) (xs := (bfs o 0).map (·.1)) hq4 hs4 hb4 ha4 (Ty.reps_one ⟨rfl, inI64 (x := 0) (by decide)⟩) rfl (by decide)
  (conv => whnf); refine vbuild1 sl57 [.string ⟨#[]⟩] rfl rfl (by decide) (by decide) ?_
  intro b5 H5 hq5 hs5 hb5 ha5
  have st5 := st4.new (T := tStr) (n := 1) (xs := (bfs o 0).map (·.2)) hq5 hs5 hb5 ha5 (Ty.reps_one ⟨rfl, by decide⟩) rfl (by decide)
  (conv => whnf)
  refine VLoop.mk [5, 6, 7] (fun x : Nat × Option Addr × Nat × Option Addr × Nat => match x with | (i, a, c, a', c') => [.slice a (bfs o i).length c, .slice a' (bfs o i).length c', .int .i64 i])
    (fun x H6 => x.1 ≤ (bfs o x.1).length ∧ (∀ (j : Nat) (y : FW), j < x.1 → (bfs o x.1)[j]? = some y → finM o y.1 = false) ∧ St H H6 [pB 38 pa (dfaL D.cell (.slice ra D.reps.length rc) (.slice na D.next.length nc) (.slice fa D.final.length fc)), pS tBool 4 (some ⟨sb, 0, none⟩) D.next.length D.next.length (seenL D.next.length (bfs o x.1)),
      pS tI 3 x.2.1 (bfs o x.1).length x.2.2.1 ((bfs o x.1).map (·.1)), pS tStr 9 x.2.2.2.1 (bfs o x.1).length x.2.2.2.2 ((bfs o x.1).map (·.2))]) (fun x _ => stN o - x.1) ?_ ?_
  · (conv => whnf)
    exact ⟨(0, some ⟨b4, 0, none⟩, 1, some ⟨b5, 0, none⟩, 1), rfl, Nat.zero_le _, (fun j y hj => by simp only at hj; omega), st5⟩
  · rintro ⟨i, a, c, a', c'⟩ H6 junk ⟨hi, hno, st6⟩
    simp only at hi hno st6
    have hb := bfs_ok hst (by omega) i
    have hlen := hb.len
    have e6 := st6.old
    have hb6 := st6.blk 0 rfl
    (conv => whnf); refine VIte.mk (fun h => ?_) (fun h => ?_) <;> simp only [decide_eq_true_eq, decide_eq_false_iff_not] at h
    · have hil : i < (bfs o i).length := by omega
      obtain ⟨⟨q, w⟩, hx⟩ := get_some hil
      have hxr := hb.rng _ (List.mem_of_getElem? hx)
      have hxs := hb.size i _ hx
      simp only at hxr hxs
      have hqx : ((bfs o i).map (·.1))[i]? = some q := by rw [List.getElem?_map, hx]; rfl
      have hwx : ((bfs o i).map (·.2))[i]? = some w := by rw [List.getElem?_map, hx]; rfl
      have g0 := fin_at hok (q := q) hxr.1 (by omega)
      rw [← hB.fin] at g0
      (conv => whnf); refine VDraw.lex rfl (by kernel_rfl) ?_
      (conv => whnf); refine VC.fa fl38_3 ?_
      (conv => whnf); refine ld1 ct24 (by rw [hb6.cell, Nat.zero_add]; exact dfaL_258 hl) trivial ?_
      (conv => whnf); refine ixO sl36 st6 2 rfl hqx rfl ?_
      rintro b7 o7 c7 _ hc7 ⟨rfl, -⟩
      (conv => whnf); refine ld1 ct3 hc7.one trivial ?_
      (conv => whnf); refine ixr (i := q.toNat) sl24 (a3.frame (e6.mono hS)) g0 (by omega) ?_
      rintro b8 o8 c8 _ hc8 rfl
      (conv => whnf); refine ld1 ct4 hc8.one trivial ?_
      cases hf : finM o q with
      | true =>
        have := least_some (by omega) hx hf hno
        rw [this]
        (conv => whnf); refine ixO sl57 st6 3 rfl hwx rfl ?_
        rintro b9 o9 c9 _ hc9 ⟨rfl, -⟩
        (conv => whnf); refine ld1 ct9 hc9.one trivial ?_
        (conv => whnf)
        exact ⟨rfl, e6⟩
      | false =>
        have hbs : bfs o (i + 1) = exTo o (q, w) (bfs o i) 256 := by rw [bfs, hx]
        (conv => whnf)
        refine VLoop.mk [5, 6, 8] (fun x : Nat × Option Addr × Nat × Option Addr × Nat => match x with | (n, a, c, a', c') => [.slice a (exTo o (q, w) (bfs o i) n).length c, .slice a' (exTo o (q, w) (bfs o i) n).length c', .int .i64 n])
          (fun x H7 => x.1 ≤ 256 ∧ St H H7 [pB 38 pa (dfaL D.cell (.slice ra D.reps.length rc) (.slice na D.next.length nc) (.slice fa D.final.length fc)), pS tBool 4 (some ⟨sb, 0, none⟩) D.next.length D.next.length (seenL D.next.length (exTo o (q, w) (bfs o i) x.1)),
            pS tI 3 x.2.1 (exTo o (q, w) (bfs o i) x.1).length x.2.2.1 ((exTo o (q, w) (bfs o i) x.1).map (·.1)), pS tStr 9 x.2.2.2.1 (exTo o (q, w) (bfs o i) x.1).length x.2.2.2.2 ((exTo o (q, w) (bfs o i) x.1).map (·.2))]) (fun x _ => 256 - x.1) ?_ ?_
        · (conv => whnf)
          exact ⟨(0, a, c, a', c'), rfl, Nat.zero_le _, st6⟩
        · rintro ⟨n, a, c, a', c'⟩ H7 junk7 ⟨hn, st7⟩
          simp only at hn st7
          have e7 := st7.old
          have hb7 := st7.blk 0 rfl
          (conv => whnf); refine VIte.mk (fun h => ?_) (fun h => ?_) <;> simp only [decide_eq_true_eq, decide_eq_false_iff_not] at h
          · have hbn := hb.to hst hx n hn
            have hbl := hbn.len
            have hxG := pre_get (exTo_pre o (q, w) (bfs o i) n) hx
            have hex : exTo o (q, w) (bfs o i) (n + 1) = if hasS (exTo o (q, w) (bfs o i) n) (stepM o q n) then exTo o (q, w) (bfs o i) n else exTo o (q, w) (bfs o i) n ++ [(stepM o q n, w ++ oneB n)] := exTo_succ _ _ _ _
            generalize exTo o (q, w) (bfs o i) n = G at *
            have hqG : (G.map (·.1))[i]? = some q := by rw [List.getElem?_map, hxG]; rfl
            have hwG : (G.map (·.2))[i]? = some w := by rw [List.getElem?_map, hxG]; rfl
            have hn8 : n < 256 := by omega
            have hsr := hst q n hxr.1 hxr.2 hn8
            (conv => whnf); refine VSeq.run ?_
            (conv => whnf); refine VDraw.held (Old H7) 8 (sq [0,1,2,3,4,5,6] (.f 7 (.f 8 .e))) rfl (by kernel_rfl) ?_
            (conv => whnf); refine dfa_load hb7 hl hb7.lt (a1.frame (e7.mono hS)) (a2.frame (e7.mono hS)) (a3.frame (e7.mono hS)) fun v8 hv8 => ?_
            (conv => whnf); refine ixO sl36 st7 2 rfl hqG rfl ?_
            rintro b9 o9 c9 hO9 hc9 ⟨rfl, -⟩
            (conv => whnf); refine ld1 ct3 hc9.one hO9 ?_
            (conv => whnf); rw [w8 (x := (n : Int)) (by omega) (by omega)]
            (conv => whnf); refine pures (refstep_p (up e7) hv8 hok hn8) fun H8 ha8 => ?_
            have st8 := st7.call ha8
            refine ⟨ha8, ?_⟩
            rw [← hB.step q n hn8]
            obtain ⟨t, ht⟩ := Int.eq_ofNat_of_zero_le hsr.1
            rw [ht] at hex hsr ⊢
            have gs := seenL_get (n := D.next.length) G (t := t) (by omega)
            (conv => whnf); refine ixO sl24 st8 1 rfl gs rfl ?_
            rintro b10 o10 c10 _ hc10 rfl
            (conv => whnf); refine ld1 ct4 hc10.one trivial ?_
            cases hh : hasS G (t : Int) with
            | true =>
              rw [hh] at hex
              simp only [if_true] at hex
              (conv => whnf); rw [w64 (x := (n : Int) + 1) (by omega) (by omega)]
              exact ⟨rfl, (n + 1, a, c, a', c'), by simp only; rw [hex]; rfl, ⟨by simp only; omega, by simp only; rw [hex]; exact st8⟩, by simp only; omega⟩
            | false =>
              rw [hh] at hex
              simp only [Bool.false_eq_true, if_false] at hex
              (conv => whnf); refine ix sl24 (by omega) (by omega) ?_
              (conv => whnf); refine st1O (x := true) st8 1 ct4 rfl rfl (by rw [Nat.zero_add, Nat.mul_one, Int.toNat_natCast]) (by rw [seenL_len]; omega) rfl (fun _ _ => rfl) fun H11 st11 => ?_
              rw [seenL_set G (w ++ oneB n) (by omega)] at st11
              (conv => whnf); refine vbuild1 sl36 [.int .i64 (t : Int)] rfl rfl (by decide) (by decide) ?_
              intro q12 H12 hq12 hs12 hb12 ha12
              (conv => whnf); refine app1 (st11.skip hq12 ha12) 2 sl36 rfl hb12 ⟨rfl, inI64 (by omega)⟩ rfl (by rw [List.length_map]; omega) (by decide) fun a2' c2' H13 st13 _ => ?_
              rw [List.length_map] at st13 ⊢
              have hwsz : (oneB n).size = 1 := rfl
              have hcat := cat_size w n
              (conv => whnf); refine VDraw.heldZ (Old H13) [11, 12] (sq [0,1,2,3,4,5,6] (.f 7 (.f 8 (sq [9] (.f 10 (.f 11 (.f 12 .e))))))) rfl (by kernel_rfl) ?_
              (conv => whnf); refine ixO sl57 st13 3 rfl hwG rfl ?_
              rintro b14 o14 c14 hO14 hc14 ⟨rfl, -⟩
              (conv => whnf); refine ld1 ct9 hc14.one hO14 ?_
              (conv => whnf); rw [w8 (x := (n : Int)) (by omega) (by omega)]
              (conv => whnf); refine vbuild1 sl48 [.int .u8 (n : Int)] rfl rfl (by decide) (by decide) ?_
              intro q15 H15 hq15 hs15 hb15 ha15
              have h15 : Agr (Old H13) H13 H15 := ha15.mono fun k hk => by unfold Old at hk; omega
              have st15 := st13.skip hq15 ha15
              refine ⟨h15, ?_⟩
              (conv => whnf); refine vb2s [n] rfl rfl rfl (fun j x hx => by
                have hj : j = 0 := by have := (List.getElem?_eq_some_iff.1 hx).1; simpa using this
                subst hj
                cases hx
                rw [hb15.cell]; rfl) rfl ?_
              refine ⟨h15, ?_⟩
              (conv => whnf); refine vcat (a := w) (b := oneB n) (by rw [hwsz]; unfold maxLen; omega) ?_
              (conv => whnf); refine vbuild1 sl57 [.string (w ++ oneB n)] rfl rfl (by decide) (by decide) ?_
              intro q16 H16 hq16 hs16 hb16 ha16
              have h16 : Agr (Old H13) H13 H16 := h15.trans (ha16.mono fun k hk => by have := old_lt h15 hk; omega)
              have st16 := st15.skip hq16 ha16
              refine ⟨h16, ?_⟩
              (conv => whnf); refine app1 st16 3 sl57 rfl hb16 ⟨rfl, by rw [hcat]; unfold maxLen; omega⟩ rfl (by rw [List.length_map]; omega) (by decide) fun a3' c3' H17 st17 ha17 => ?_
              rw [List.length_map] at st17 ⊢
              (conv => whnf); rw [w64 (x := (n : Int) + 1) (by omega) (by omega)]
              have hGl2 : (G ++ [((t : Int), w ++ oneB n)]).length = G.length + 1 := by simp
              refine ⟨rfl, (n + 1, a2', c2', a3', c3'), by simp only; rw [hex, hGl2]; rfl, ⟨by simp only; omega, ?_⟩, by simp only; omega⟩
              simp only
              rw [hex, hGl2, List.map_append, List.map_append]
              exact st17
          · obtain rfl : n = 256 := by omega
            rw [← hbs] at st7 ⊢
            have hpre := bfs_pre o i
            (conv => whnf); rw [w64 (x := (i : Int) + 1) (by omega) (by omega)]
            refine ⟨rfl, (i + 1, a, c, a', c'), by simp, ⟨by simp only; have := hpre.length_le; omega, fun j y hj hy => ?_, st7⟩, by simp only; omega⟩
            simp only at hj
            obtain ⟨y', hy'⟩ := get_some (l := bfs o i) (k := j) (by omega)
            have e := pre_get hpre hy'
            rw [hy] at e
            cases e
            by_cases hji : j = i
            · subst hji; rw [hx] at hy'; cases hy'; exact hf
            · exact hno j y (by omega) hy'
    · have hle : (bfs o i).length ≤ i := by omega
      have := least_none (o := o) (i := i) (by omega) hle fun j y hy => hno j y (by have := (List.getElem?_eq_some_iff.1 hy).1; omega) hy
      rw [this]
      (conv => whnf)
      exact ⟨rfl, e6⟩
end Go.Proofs.Ytkgmhkcncemmkaa
