/- The document's Useful and Live. -/
import Derived.Test.YtpnnedkpbmilkaaPRef8
set_option linter.unusedVariables false
set_option linter.unusedSimpArgs false
set_option maxRecDepth 100000
namespace Go.Proofs.Ytpnnedkpbmilkaa
open Go.VC
attribute [local irreducible] mRun atRun

def nf (u : List Bool) : Nat := (u.filter fun x => !x).length
theorem nf_set : ∀ {u : List Bool} {q : Nat}, u[q]? = some false → nf (u.set q true) < nf u
  | [], q, h => by simp at h
  | x :: u, 0, h => by
    simp only [List.getElem?_cons_zero, Option.some.injEq] at h
    subst h
    simp [nf]
  | x :: u, q + 1, h => by
    have ih := nf_set (u := u) (q := q) (by simpa using h)
    unfold nf at ih ⊢
    simp only [List.set_cons_succ, List.filter_cons]
    split <;> simp <;> omega
open Classical in
noncomputable def usefulL (D : DM) : List Bool := (List.range D.next.length).map fun q => decide (LiveT D.next D.final q)
/-- What is marked so far. -/
structure MkOk (D : DM) (u : List Bool) : Prop where
  len : u.length = D.next.length
  live : ∀ q : Nat, u[q]? = some true → LiveT D.next D.final q
  fin : ∀ q : Nat, D.final[q]? = some true → u[q]? = some true
def Shut (D : DM) (u : List Bool) (q : Nat) : Prop := u[q]? = some true ∨ ∀ (row : List Int) (t : Nat), D.next[q]? = some row → (t : Int) ∈ row → u[t]? ≠ some true
theorem mk_all {D : DM} {u : List Bool} (h : MkOk D u) (hs : ∀ q, q < D.next.length → Shut D u q) : ∀ {q : Nat}, LiveT D.next D.final q → u[q]? = some true := by
  intro q hl
  induction hl with
  | fin hf => exact h.fin _ hf
  | step hr ht _ ih =>
    rcases hs _ (List.getElem?_eq_some_iff.1 hr).1 with h1 | h1
    · exact h1
    · exact absurd ih (h1 _ _ hr ht)
open Classical in
theorem mk_useful {D : DM} {u : List Bool} (h : MkOk D u) (hs : ∀ q, q < D.next.length → Shut D u q) : u = usefulL D := by
  apply List.ext_getElem?
  intro q
  by_cases hq : q < D.next.length
  · obtain ⟨x, hx⟩ := get_some (l := u) (k := q) (by rw [h.len]; exact hq)
    unfold usefulL
    rw [List.getElem?_map, List.getElem?_range hq, hx]
    simp only [Option.map_some, Option.some.injEq]
    cases x with
    | true => exact (decide_eq_true (h.live q hx)).symm
    | false => exact (decide_eq_false fun hl => by have := mk_all h hs hl; rw [hx] at this; cases this).symm
  · rw [List.getElem?_eq_none (by rw [h.len]; omega), List.getElem?_eq_none (by simp [usefulL]; omega)]
theorem mk_set {D : DM} {u : List Bool} {q t : Nat} {row : List Int} (h : MkOk D u) (hr : D.next[q]? = some row) (ht : (t : Int) ∈ row) (hu : u[t]? = some true) : MkOk D (u.set q true) := by
  have hq := (List.getElem?_eq_some_iff.1 hr).1
  refine ⟨by simp [h.len], fun p hp => ?_, fun p hp => ?_⟩
  · rw [List.getElem?_set] at hp
    split at hp
    · rename_i e; subst e; exact .step hr ht (h.live t hu)
    · exact h.live p hp
  · rw [List.getElem?_set]
    split
    · rename_i e; subst e; rw [if_pos (by rw [h.len]; exact hq)]
    · exact h.fin p hp

set_option maxHeartbeats 4000000 in
theorem useful_c {S : Nat → Prop} {H : Heap} {v : Value} {D : DM} (hS : ∀ k, S k → k < H.size) (h : DfaV S H v D) (hok : D.Ok) :
    FnOk Try.prog 33 #[v] H fun v H' => Agr (Old H) H H' ∧ H.size ≤ H'.size ∧ ∃ a cap, v = .slice a (usefulL D).length cap ∧ SlD tBool (Fresh H H') H' a cap (usefulL D) := by
  have hlen := h.len
  have hn1 := hok.n1
  have hn2 := hok.n2
  have hfl := hok.fl
  refine FnOk.of_vc Try.func33 rfl (Try.call33 _) ?_
  (conv => whnf); refine dfa_box h fun ra rc na nc fa fc he h1 h2 h3 => ?_
  subst he
  intro pb H1 hpb hs1 hb1 ha1
  have hA1 : Agr (Old H) H H1 := ha1.mono fun j hj => by unfold Old at hj; omega
  (conv => whnf); refine vbuild0 sl24 ?_
  intro q2 H2 hq2 hs2 hb2 ha2
  have hA2 : Agr (Old H) H H2 := hA1.trans (ha2.mono fun j hj => by unfold Old at hj; omega)
  have hb12 := hb1.agr ha2 (show pb < q2 by omega)
  (conv => whnf); refine VC.fa fl37_3 ?_
  (conv => whnf); refine ld1 ct24 (by rw [hb12.cell, Nat.zero_add]; exact dfaL_258 hlen) trivial ?_
  (conv => whnf); refine ends_c hb2 (S := S) (fun k hk => ⟨old_lt hA2 (hS k hk), by have := hS k hk; omega⟩) (h3.frame (hA2.mono hS)) (by omega) ?_
  intro v3 H3 hu3 ha3 hs3
  have hA3 : Agr (Old H) H H3 := hA2.trans (ha3.mono fun j hj => ⟨old_lt hA2 hj, by unfold Old at hj; omega⟩)
  have hb13 := hb12.agr ha3 ⟨by omega, by omega⟩
  -- the slice's block
  obtain ⟨f0, hf0⟩ := get_some (l := D.final) (k := 0) (by omega)
  obtain ⟨ub, ucap, ul, ucs, e3, hulo, hublk, -, -, -, -⟩ := hu3.place (i := 0) (by omega)
  subst e3
  have hublt := hublk.lt
  (conv => whnf)
  refine VLoop.mk [4] (fun x : Bool × List Bool => match x with | (more, u) => [.bool more]) (fun x H4 => MkOk D x.2 ∧ Agr (fun j => j ≠ ub) H3 H4 ∧ H4.size = H3.size ∧ SlO tBool (fun _ => False) H4 q2 4 (.slice (some ⟨ub, 0, none⟩) D.final.length ucap) x.2 ∧ (x.1 = false → ∀ q, q < D.next.length → Shut D x.2 q))
    (fun x _ => 2 * nf x.2 + if x.1 then 1 else 0) ?_ ?_
  · (conv => whnf)
    refine ⟨(true, D.final), rfl, ⟨hfl, fun q hq => .fin hq, fun q hq => hq⟩, Agr.refl _ _, rfl, hu3, fun h => by cases h⟩
  · rintro ⟨more, u0⟩ H4 junk ⟨hmk, ha4, hs4, hu4, hsh⟩
    simp only at hmk hu4 hsh
    have hpu : pb ≠ ub := by omega
    have hA4 : Agr (Old H) H H4 := hA3.trans (ha4.mono fun j hj => by unfold Old at hj; omega)
    have hb14 := hb13.agr ha4 hpu
    (conv => whnf); refine VIte.mk (fun hmore => ?_) (fun hmore => ?_)
    · subst hmore
      (conv => whnf); refine VC.fa fl37_2 ?_
      (conv => whnf); refine ld1 ct23 (by rw [hb14.cell, Nat.zero_add]; exact dfaL_257 hlen) trivial ?_
      (conv => whnf); rw [w64 (x := (D.next.length : Int) - 1) (by omega) (by omega)]
      (conv => whnf)
      refine VLoop.mk [4, 5] (fun x : Bool × List Bool × Nat => match x with | (mo, u, n) => [.bool mo, .int .i64 ((D.next.length : Int) - 1 - n)]) (fun x H5 => x.2.2 ≤ D.next.length ∧ MkOk D x.2.1 ∧ Agr (fun j => j ≠ ub) H4 H5 ∧ H5.size = H4.size ∧ SlO tBool (fun _ => False) H5 q2 4 (.slice (some ⟨ub, 0, none⟩) D.final.length ucap) x.2.1 ∧
        ((x.1 = false ∧ x.2.1 = u0 ∧ ∀ q, D.next.length - x.2.2 ≤ q → q < D.next.length → Shut D u0 q) ∨ (x.1 = true ∧ nf x.2.1 < nf u0))) (fun x _ => D.next.length - x.2.2) ?_ ?_
      · (conv => whnf)
        exact ⟨(false, u0, 0), by simp, by simp, hmk, Agr.refl _ _, rfl, hu4, .inl ⟨rfl, rfl, fun q h1 h2 => by simp only at h1; omega⟩⟩
      · rintro ⟨mo, u, n⟩ H5 junk5 ⟨hn5, hmk5, ha5, hs5, hu5, hcase⟩
        simp only at hn5 hmk5 hu5 hcase
        have hA5 : Agr (Old H) H H5 := hA4.trans (ha5.mono fun j hj => by unfold Old at hj; omega)
        have hb15 := hb14.agr ha5 hpu
        (conv => whnf); refine VIte.mk (fun h => ?_) (fun h => ?_) <;> simp only [decide_eq_true_eq, decide_eq_false_iff_not] at h
        · have hqi : (D.next.length : Int) - 1 - (n : Int) = ((D.next.length - 1 - n : Nat) : Int) := by omega
          rw [hqi]
          have hql : D.next.length - 1 - n < D.next.length := by omega
          generalize hq : D.next.length - 1 - n = q at *
          obtain ⟨row, hrow⟩ := get_some hql
          have hrw := hok.rows row (List.mem_of_getElem? hrow)
          (conv => whnf)
          refine VLoop.mk [4, 6] (fun x : Bool × List Bool × Nat => match x with | (mo, u, k) => [.bool mo, .int .i64 k]) (fun x H6 => x.2.2 ≤ row.length ∧ MkOk D x.2.1 ∧ Agr (fun j => j ≠ ub) H5 H6 ∧ H6.size = H5.size ∧ SlO tBool (fun _ => False) H6 q2 4 (.slice (some ⟨ub, 0, none⟩) D.final.length ucap) x.2.1 ∧
            ((x.1 = false ∧ x.2.1 = u0 ∧ (∀ q', D.next.length - n ≤ q' → q' < D.next.length → Shut D u0 q') ∧ ∀ (i t : Nat), i < x.2.2 → row[i]? = some (t : Int) → u0[t]? ≠ some true) ∨ (x.1 = true ∧ nf x.2.1 < nf u0))) (fun x _ => row.length - x.2.2) ?_ ?_
          · (conv => whnf)
            refine ⟨(mo, u, 0), rfl, by simp, hmk5, Agr.refl _ _, rfl, hu5, ?_⟩
            rcases hcase with ⟨c1, c2, c3⟩ | c
            · exact .inl ⟨c1, c2, c3, fun i t hi => by simp only at hi; omega⟩
            · exact .inr c
          · rintro ⟨mo6, u6, k⟩ H6 junk6 ⟨hk, hmk6, ha6, hs6, hu6, hcase6⟩
            simp only at hk hmk6 hu6 hcase6
            have hA6 : Agr (Old H) H H6 := hA5.trans (ha6.mono fun j hj => by unfold Old at hj; omega)
            have hb16 := hb15.agr ha6 hpu
            have hul := hmk6.len
            obtain ⟨x, hx⟩ := get_some (l := u6) (k := q) (by omega)
            have hud : SlD tBool (fun j => j = ub) H6 (some ⟨ub, 0, none⟩) ucap u6 := by
              obtain ⟨a, cap, e, hd, -⟩ := hu6.view (S' := fun j => j = ub) (fun j hj => by obtain ⟨o, n, c, e⟩ := hj; cases e; rfl) (fun _ f => f.elim)
              injection e with e1 e2 e3
              subst e1; subst e3
              exact hd
            -- what ends the row
            have done : (x = true ∨ k = row.length) → ((mo6 = false ∧ u6 = u0 ∧ ∀ q', D.next.length - (n + 1) ≤ q' → q' < D.next.length → Shut D u0 q') ∨ (mo6 = true ∧ nf u6 < nf u0)) := by
              intro hend
              rcases hcase6 with ⟨c1, c2, c3, c4⟩ | c
              · refine .inl ⟨c1, c2, fun q' h1 h2 => ?_⟩
                by_cases hq' : q' = q
                · subst hq'
                  rcases hend with hend | hend
                  · rw [hend] at hx; rw [← c2]; exact .inl hx
                  · refine .inr fun row' t hr' ht => ?_
                    rw [hrow] at hr'; cases hr'
                    obtain ⟨i, hi⟩ := List.getElem?_of_mem ht
                    exact c4 i t (by have := (List.getElem?_eq_some_iff.1 hi).1; omega) hi
                · exact c3 q' (by omega) h2
              · exact .inr c
            by_cases hkl : k < row.length
            · have d1 : decide ((k : Int) < (row.length : Int)) = true := decide_eq_true (by omega)
              (conv => whnf); refine VC.fa fl37_2 ?_
              (conv => whnf); refine ld1 ct23 (by rw [hb16.cell, Nat.zero_add]; exact dfaL_257 hlen) trivial ?_
              (conv => whnf); refine ixr sl23 (h2.frame (hA6.mono hS)) hrow rfl ?_
              rintro b7 o7 cs7 hSb7 hcells7 ⟨xa, xc, rfl, hxr⟩
              (conv => whnf); refine ld1 ct35 hcells7.one trivial ?_
              (conv => whnf); rw [d1]
              (conv => whnf); refine ixrn sl24 hud (by rw [hul, hfl]) hx rfl ?_
              rintro b8 o8 cs8 hSb8 hcells8 rfl
              (conv => whnf); refine ld1 ct4 hcells8.one trivial ?_
              cases x with
              | true =>
                (conv => whnf); rw [w64 (x := (q : Int) - 1) (by omega) (by omega)]
                exact ⟨rfl, (mo6, u6, n + 1), by simp; omega, ⟨by simp only; omega, hmk6, ha5.trans ha6, by omega, hu6, done (.inl rfl)⟩, by simp only; omega⟩
              | false =>
                obtain ⟨ti, hti⟩ := get_some hkl
                have htr := hrw.2.2 ti (List.mem_of_getElem? hti)
                obtain ⟨t, rfl⟩ := Int.eq_ofNat_of_zero_le htr.1
                obtain ⟨y, hy⟩ := get_some (l := u6) (k := t) (by omega)
                (conv => whnf); refine VSeq.run ?_
                (conv => whnf); refine VC.fa fl37_2 ?_
                (conv => whnf); refine ld1 ct23 (by rw [hb16.cell, Nat.zero_add]; exact dfaL_257 hlen) trivial ?_
                (conv => whnf); refine ixr sl23 (h2.frame (hA6.mono hS)) hrow rfl ?_
                rintro b9 o9 cs9 hSb9 hcells9 ⟨za, zc, rfl, hzr⟩
                (conv => whnf); refine ld1 ct35 hcells9.one trivial ?_
                (conv => whnf); refine ixr sl35 hzr hti rfl ?_
                rintro b10 o10 cs10 hSb10 hcells10 ⟨rfl, -⟩
                (conv => whnf); refine ld1 ct3 hcells10.one trivial ?_
                (conv => whnf); refine ixrn sl24 hud (by rw [hul, hfl]) hy rfl ?_
                rintro b11 o11 cs11 hSb11 hcells11 rfl
                (conv => whnf); refine ld1 ct4 hcells11.one trivial ?_
                cases y with
                | true =>
                  obtain ⟨-, -, -, l12, hblk12, hlen12, -, hput12⟩ := hu6.placeS (i := q) (by omega)
                  have hsz : q * tBool.size = q := Nat.mul_one q
                  have hsz1 : tBool.size = 1 := rfl
                  (conv => whnf); refine ix sl24 (by omega) (by omega) ?_
                  (conv => whnf); refine st1 ct4 hblk12 (by omega) rfl ?_
                  intro H12 hb12' ha12 hs12
                  rw [show 0 + ((q : Nat) : Int).toNat * 1 = q * tBool.size by show 0 + ((q : Nat) : Int).toNat * 1 = q * 1; omega] at hb12'
                  have hu12 := hput12 H12 [.bool true] true (by rw [← splice_one (show q * tBool.size < l12.length by omega)] at hb12'; exact hb12') (fun j hj => hj.elim) rfl
                  have hnf := nf_set hx
                  (conv => whnf); rw [w64 (x := (k : Int) + 1) (by omega) (by omega)]
                  refine ⟨rfl, (true, u6.set q true, k + 1), by simp, ⟨by simp only; omega, mk_set hmk6 hrow (List.mem_of_getElem? hti) hy, ha6.trans (ha12.mono fun j hj => hj), by omega, hu12, .inr ⟨rfl, ?_⟩⟩, by simp only; omega⟩
                  rcases hcase6 with ⟨c1, c2, c3, c4⟩ | c
                  · simp only; rw [← c2]; exact hnf
                  · simp only; omega
                | false =>
                  (conv => whnf); rw [w64 (x := (k : Int) + 1) (by omega) (by omega)]
                  refine ⟨rfl, (mo6, u6, k + 1), by simp, ⟨by simp only; omega, hmk6, ha6, by omega, hu6, ?_⟩, by simp only; omega⟩
                  rcases hcase6 with ⟨c1, c2, c3, c4⟩ | c
                  · refine .inl ⟨c1, c2, c3, fun i t' hi hit => ?_⟩
                    simp only at hi
                    by_cases hik : i = k
                    · subst hik
                      rw [hti] at hit
                      have : t' = t := by have := Option.some.inj hit; omega
                      subst this
                      rw [← c2, hy]; simp
                    · exact c4 i t' (by omega) hit
                  · exact .inr c
            · have d1 : decide ((k : Int) < (row.length : Int)) = false := decide_eq_false (by omega)
              (conv => whnf); refine VC.fa fl37_2 ?_
              (conv => whnf); refine ld1 ct23 (by rw [hb16.cell, Nat.zero_add]; exact dfaL_257 hlen) trivial ?_
              (conv => whnf); refine ixr sl23 (h2.frame (hA6.mono hS)) hrow rfl ?_
              rintro b7 o7 cs7 hSb7 hcells7 ⟨xa, xc, rfl, hxr⟩
              (conv => whnf); refine ld1 ct35 hcells7.one trivial ?_
              (conv => whnf); rw [d1]
              (conv => whnf); rw [w64 (x := (q : Int) - 1) (by omega) (by omega)]
              exact ⟨rfl, (mo6, u6, n + 1), by simp; omega, ⟨by simp only; omega, hmk6, ha5.trans ha6, by omega, hu6, done (.inr (by omega))⟩, by simp only; omega⟩
        · obtain rfl : n = D.next.length := by omega
          (conv => whnf)
          refine ⟨rfl, (mo, u), rfl, ⟨hmk5, ha4.trans ha5, by omega, hu5, fun hm => ?_⟩, ?_⟩
          · rcases hcase with ⟨c1, c2, c3⟩ | ⟨c1, _⟩
            · simp only; rw [c2]; exact fun q hq => c3 q (by omega) hq
            · simp only at hm; rw [c1] at hm; cases hm
          · rcases hcase with ⟨c1, c2, c3⟩ | ⟨c1, c2⟩
            · subst c1; subst c2; simp
            · subst c1; simp; omega
    · subst hmore
      have hu := mk_useful hmk (hsh rfl)
      (conv => whnf)
      obtain ⟨a, cap, e, hd, -⟩ := hu4.view (S' := Fresh H H4) (fun j hj => ⟨by have := (hu4.lt hj).1; omega, (hu4.lt hj).2⟩) (fun _ f => f.elim)
      rw [hu] at hd e
      exact ⟨hA4, by omega, a, cap, e, hd⟩

end Go.Proofs.Ytpnnedkpbmilkaa
