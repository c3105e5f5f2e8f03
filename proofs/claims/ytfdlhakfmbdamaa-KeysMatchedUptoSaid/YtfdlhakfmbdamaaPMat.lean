/- The law KeysMatched: its walk. -/
import Derived.Test.YtfdlhakfmbdamaaPSelf
set_option linter.unusedVariables false
set_option linter.unusedSimpArgs false
set_option maxRecDepth 100000
namespace Go.Proofs.Ytfdlhakfmbdamaa
open Go.VC
set_option maxHeartbeats 16000000 in
theorem keysMatched_p (va sa : Option Addr) (vc sc : Nat) (view source : List ByteArray) (S : Nat → Prop) (H : Heap) (hS : ∀ k, S k → k < H.size) (hv : SlD tStr S H va vc view) (hs : SlD tStr S H sa sc source) (nv : view.length ≤ 4194300) (ns : source.length ≤ 4194300) :
    Pure Try.prog 5 #[.slice va view.length vc, .slice sa source.length sc] H (.bool true) := by
  have hal : (alignM view source).length = view.length := by simp [alignM]
  refine FnOk.of_vc Try.func5 rfl (Try.call5 _) ?_
  (conv => whnf); refine pures (speaks_p H) fun H1 ha1 => ?_
  have st1 := (St.nil H).call ha1
  (conv => whnf); refine vbuild0 sl22 ?_
  intro q2 H2 hq2 hs2 hb2 ha2
  have st2 := st1.new (T := tStr) (xs := []) hq2 hs2 hb2 ha2 rfl rfl (by decide)
  (conv => whnf); refine appD st2 0 sl22 tStr_ones tStr_free rfl (fun k hk => hS k hk) (hv.frame (st2.old.mono hS)) (by simp; omega) (by decide) fun a3 c3 H3 st3 => ?_
  rw [show ([] : List ByteArray).length + view.length = view.length by simp] at st3 ⊢
  rw [List.nil_append] at st3
  (conv => whnf); refine vbuild0 sl22 ?_
  intro q4 H4 hq4 hs4 hb4 ha4
  have st4 := st3.new (T := tStr) (xs := []) hq4 hs4 hb4 ha4 rfl rfl (by decide)
  (conv => whnf); refine appD st4 1 sl22 tStr_ones tStr_free rfl (fun k hk => hS k hk) (hs.frame (st4.old.mono hS)) (by simp; omega) (by decide) fun a5 c5 H5 st5 => ?_
  rw [show ([] : List ByteArray).length + source.length = source.length by simp] at st5 ⊢
  rw [List.nil_append] at st5
  have hx5 : SlD tStr (Old H5) H5 a3 c3 view := st5.view 0 rfl
  have hy5 : SlD tStr (Old H5) H5 a5 c5 source := st5.view 1 rfl
  (conv => whnf); refine VCall.mk (align_c a3 a5 c3 c5 view source (Old H5) H5 (fun k hk => hk) hx5 hy5 (by omega) (by omega)) ?_
  rintro _ H6 ⟨ha6, hs6, ab, rfl, hab, hw6⟩
  obtain ⟨a6, c6, e6, st6⟩ := st5.got ha6 hw6
  rw [hal] at e6 st6
  injection e6 with e7 _ e8
  subst e7; subst e8
  have d1 : ((view.length : Int) != (view.length : Int)) = false := by simp
  (conv => whnf); rw [d1]
  (conv => whnf); refine vmake1 sl24 rfl (by omega) (by omega) (by omega) (by omega) ?_
  intro nb H7 hnb hs7 hb7 ha7
  rw [Int.toNat_natCast] at hb7 ⊢
  have hlist : (List.replicate source.length [Value.int .i64 0]).flatten = List.replicate source.length (Value.int .i64 0) := by
    induction source.length with
    | zero => rfl
    | succ n ih => rw [List.replicate_succ, List.flatten_cons, ih]; rfl
  have st7 := (st6.pick [2] (by decide)).new (T := tI) (n := source.length) (xs := List.replicate source.length (0 : Int)) hnb hs7 hb7 ha7 (by
    have := ints_reps (S := none_) (H := H7) (xs := List.replicate source.length (0 : Int)) fun x hx => by
      rw [List.eq_of_mem_replicate hx]; exact inI64 (x := 0) (by decide)
    rw [List.map_replicate] at this
    first | exact this | (rw [hlist]; exact this)) (by simp) (by unfold maxLen; omega)
  have hvw : ∀ {H' : Heap} {ps : List Pc}, St H H' ps → SlD tStr S H' va vc view := fun st => hv.frame (st.old.mono hS)
  have hsw : ∀ {H' : Heap} {ps : List Pc}, St H H' ps → SlD tStr S H' sa sc source := fun st => hs.frame (st.old.mono hS)
  (conv => whnf)
  refine VLoop.mk [7] (fun i : Nat => [.int .i64 (i : Int)]) (fun i H8 => i ≤ view.length ∧ ∃ bs, ByOk view source i bs ∧ St H H8 [pS tI 3 (some ⟨ab, 0, none⟩) view.length view.length (alignM view source), pS tI 3 (some ⟨nb, 0, none⟩) source.length source.length bs]) (fun i _ => view.length - i) ?_ ?_
  · (conv => whnf)
    exact ⟨0, rfl, Nat.zero_le _, _, ByOk.start, st7⟩
  · rintro i H8 junk8 ⟨hi, bs, hby, st8⟩
    (conv => whnf); refine VIte.mk (fun hz => ?_) (fun hz => ?_) <;> simp only [decide_eq_true_eq, decide_eq_false_iff_not] at hz
    · have hil : i < view.length := by omega
      obtain ⟨x, hx⟩ := get_some hil
      have hget := alignM_get (source := source) hil
      rcases takes_cases (source := source) hx with ⟨hm, -⟩ | ⟨p, hm, -, -⟩
      · rw [hm] at hget
        have e1 : decide ((-1 : Int) < -1) = false := by decide
        have e2 : decide ((source.length : Int) ≤ -1) = false := decide_eq_false (by omega)
        have e3 : decide ((0 : Int) ≤ -1) = false := by decide
        (conv => whnf); refine VSeq.run ?_
        (conv => whnf); refine ixO sl24 st8 0 rfl hget rfl ?_
        rintro b9 o9 cs9 hS9 hc9 ⟨rfl, -⟩
        (conv => whnf); refine ld1 ct3 hc9.one trivial ?_
        (conv => whnf); rw [e1]
        (conv => whnf); refine ixO sl24 st8 0 rfl hget rfl ?_
        rintro b10 o10 cs10 hS10 hc10 ⟨rfl, -⟩
        (conv => whnf); refine ld1 ct3 hc10.one trivial ?_
        (conv => whnf); rw [e2]
        (conv => whnf); refine ixO sl24 st8 0 rfl hget rfl ?_
        rintro b11 o11 cs11 hS11 hc11 ⟨rfl, -⟩
        (conv => whnf); refine ld1 ct3 hc11.one trivial ?_
        (conv => whnf); rw [w64 (x := (i : Int) + 1) (by omega) (by omega)]
        exact ⟨rfl, i + 1, by simp, ⟨by omega, bs, hby.miss hx (by omega), st8⟩, by omega⟩
      · obtain ⟨hpl, hps, hb0, hby2⟩ := hby.hit hx hm
        rw [hm] at hget
        have e1 : decide ((p : Int) < -1) = false := decide_eq_false (by omega)
        have e2 : decide ((source.length : Int) ≤ (p : Int)) = false := decide_eq_false (by omega)
        have e3 : decide ((0 : Int) ≤ (p : Int)) = true := decide_eq_true (by omega)
        (conv => whnf); refine VSeq.run ?_
        (conv => whnf); refine ixO sl24 st8 0 rfl hget rfl ?_
        rintro b9 o9 cs9 hS9 hc9 ⟨rfl, -⟩
        (conv => whnf); refine ld1 ct3 hc9.one trivial ?_
        (conv => whnf); rw [e1]
        (conv => whnf); refine ixO sl24 st8 0 rfl hget rfl ?_
        rintro b10 o10 cs10 hS10 hc10 ⟨rfl, -⟩
        (conv => whnf); refine ld1 ct3 hc10.one trivial ?_
        (conv => whnf); rw [e2]
        (conv => whnf); refine ixO sl24 st8 0 rfl hget rfl ?_
        rintro b11 o11 cs11 hS11 hc11 ⟨rfl, -⟩
        (conv => whnf); refine ld1 ct3 hc11.one trivial ?_
        (conv => whnf); refine VDraw.lex rfl (by kernel_rfl) ?_
        (conv => whnf); refine ixO sl24 st8 0 rfl hget rfl ?_
        rintro b12 o12 cs12 hS12 hc12 ⟨rfl, -⟩
        (conv => whnf); refine ld1 ct3 hc12.one trivial ?_
        (conv => whnf); refine ixO sl24 st8 1 rfl hb0 rfl ?_
        rintro b13 o13 cs13 hS13 hc13 ⟨rfl, -⟩
        (conv => whnf); refine ld1 (v := .int .i64 0) ct3 hc13.one trivial ?_
        (conv => whnf); refine ixO sl24 st8 0 rfl hget rfl ?_
        rintro b14 o14 cs14 hS14 hc14 ⟨rfl, -⟩
        (conv => whnf); refine ld1 ct3 hc14.one trivial ?_
        (conv => whnf); refine ixr sl22 (hsw st8) hps rfl ?_
        rintro b15 o15 cs15 hS15 hc15 ⟨rfl, -⟩
        (conv => whnf); refine ld1 ct9 hc15.one trivial ?_
        (conv => whnf); refine ixr sl22 (hvw st8) hx rfl ?_
        rintro b16 o16 cs16 hS16 hc16 ⟨rfl, -⟩
        (conv => whnf); refine ld1 ct9 hc16.one trivial ?_
        have e4 : (!(x.toList == x.toList)) = false := by simp
        (conv => whnf); rw [e4]
        (conv => whnf); refine ixO sl24 st8 0 rfl hget rfl ?_
        rintro b17 o17 cs17 hS17 hc17 ⟨rfl, -⟩
        (conv => whnf); refine ld1 ct3 hc17.one trivial ?_
        (conv => whnf); rw [w64 (x := (i : Int) + 1) (by omega) (by omega)]
        (conv => whnf); refine ix sl24 (by omega) (by omega) ?_
        (conv => whnf); refine st1O (x := (i : Int) + 1) (j := p) st8 1 ct3 rfl rfl (by omega) (by rw [hby.len]; exact hpl) rfl (fun _ _ => ⟨rfl, by show (-9223372036854775808 : Int) ≤ _; omega, by show _ ≤ (9223372036854775807 : Int); omega⟩) fun H18 st18 => ?_
        (conv => whnf); rw [w64 (x := (i : Int) + 1) (by omega) (by omega)]
        exact ⟨rfl, i + 1, by simp, ⟨by omega, _, hby2, st18⟩, by omega⟩
    · obtain rfl : i = view.length := by omega
      (conv => whnf)
      refine VLoop.mk [8] (fun i : Nat => [.int .i64 (i : Int)]) (fun i H9 => i ≤ view.length ∧ H9 = H8) (fun i _ => view.length - i) ?_ ?_
      · (conv => whnf)
        exact ⟨0, rfl, Nat.zero_le _, rfl⟩
      · rintro i H9 junk9 ⟨hi9, rfl⟩
        (conv => whnf); refine VIte.mk (fun hz => ?_) (fun hz => ?_) <;> simp only [decide_eq_true_eq, decide_eq_false_iff_not] at hz
        · have hil : i < view.length := by omega
          obtain ⟨x, hx⟩ := get_some hil
          have hget := alignM_get (source := source) hil
          (conv => whnf)
          refine VLoop.mk [9] (fun k : Nat => [.int .i64 (k : Int)]) (fun k H10 => k ≤ source.length ∧ H10 = H9) (fun k _ => source.length - k) ?_ ?_
          · (conv => whnf)
            exact ⟨0, rfl, Nat.zero_le _, rfl⟩
          · rintro k H10 junk10 ⟨hk10, rfl⟩
            (conv => whnf); refine VIte.mk (fun hz => ?_) (fun hz => ?_) <;> simp only [decide_eq_true_eq, decide_eq_false_iff_not] at hz
            · have hkl : k < source.length := by omega
              obtain ⟨y, hy⟩ := get_some hkl
              (conv => whnf); refine VSeq.run ?_
              (conv => whnf); refine VDraw.lex rfl (by kernel_rfl) ?_
              (conv => whnf); refine ixr sl22 (hsw st8) hy rfl ?_
              rintro b11 o11 cs11 hS11 hc11 ⟨rfl, -⟩
              (conv => whnf); refine ld1 ct9 hc11.one trivial ?_
              (conv => whnf); refine ixr sl22 (hvw st8) hx rfl ?_
              rintro b12 o12 cs12 hS12 hc12 ⟨rfl, -⟩
              (conv => whnf); refine ld1 ct9 hc12.one trivial ?_
              by_cases hxy : y = x
              · subst hxy
                have e5 : (!(y.toList == y.toList)) = false := by simp
                (conv => whnf); rw [e5]
                (conv => whnf); refine ixO sl24 st8 0 rfl hget rfl ?_
                rintro b13 o13 cs13 hS13 hc13 ⟨rfl, -⟩
                (conv => whnf); refine ld1 ct3 hc13.one trivial ?_
                by_cases h0 : takes view source i < 0
                · obtain ⟨j, hj, hjk⟩ := hby.fine hil hkl (early hx hy (.inl h0))
                  have e0 := decide_eq_true h0
                  (conv => whnf); rw [e0]
                  have e6 : ((((j : Nat) : Int) + 1) == 0) = false := beq_eq_false_iff_ne.2 (by omega)
                  have e7 : decide ((i : Int) < ((j : Nat) : Int) + 1) = false := decide_eq_false (by omega)
                  (conv => whnf); refine ixO sl24 st8 1 rfl hjk rfl ?_
                  rintro b15 o15 cs15 hS15 hc15 ⟨rfl, -⟩
                  (conv => whnf); refine ld1 ct3 hc15.one trivial ?_
                  (conv => whnf); rw [e6]
                  (conv => whnf); refine ixO sl24 st8 1 rfl hjk rfl ?_
                  rintro b16 o16 cs16 hS16 hc16 ⟨rfl, -⟩
                  (conv => whnf); refine ld1 ct3 hc16.one trivial ?_
                  (conv => whnf); rw [e7]
                  (conv => whnf); rw [w64 (x := (k : Int) + 1) (by omega) (by omega)]
                  exact ⟨rfl, k + 1, by simp, ⟨by omega, rfl⟩, by omega⟩
                · have e0 := decide_eq_false h0
                  (conv => whnf); rw [e0]
                  (conv => whnf); refine ixO sl24 st8 0 rfl hget rfl ?_
                  rintro b14 o14 cs14 hS14 hc14 ⟨rfl, -⟩
                  (conv => whnf); refine ld1 ct3 hc14.one trivial ?_
                  by_cases h1 : (k : Int) < takes view source i
                  · obtain ⟨j, hj, hjk⟩ := hby.fine hil hkl (early hx hy (.inr h1))
                    have e1 := decide_eq_true h1
                    (conv => whnf); rw [e1]
                    have e6 : ((((j : Nat) : Int) + 1) == 0) = false := beq_eq_false_iff_ne.2 (by omega)
                    have e7 : decide ((i : Int) < ((j : Nat) : Int) + 1) = false := decide_eq_false (by omega)
                    (conv => whnf); refine ixO sl24 st8 1 rfl hjk rfl ?_
                    rintro b15 o15 cs15 hS15 hc15 ⟨rfl, -⟩
                    (conv => whnf); refine ld1 ct3 hc15.one trivial ?_
                    (conv => whnf); rw [e6]
                    (conv => whnf); refine ixO sl24 st8 1 rfl hjk rfl ?_
                    rintro b16 o16 cs16 hS16 hc16 ⟨rfl, -⟩
                    (conv => whnf); refine ld1 ct3 hc16.one trivial ?_
                    (conv => whnf); rw [e7]
                    (conv => whnf); rw [w64 (x := (k : Int) + 1) (by omega) (by omega)]
                    exact ⟨rfl, k + 1, by simp, ⟨by omega, rfl⟩, by omega⟩
                  · have e1 := decide_eq_false h1
                    (conv => whnf); rw [e1]
                    (conv => whnf); rw [w64 (x := (k : Int) + 1) (by omega) (by omega)]
                    exact ⟨rfl, k + 1, by simp, ⟨by omega, rfl⟩, by omega⟩
              · have e5 : (!(y.toList == x.toList)) = true := by
                  rw [text_same, same_ne hxy]; rfl
                (conv => whnf); rw [e5]
                (conv => whnf); rw [w64 (x := (k : Int) + 1) (by omega) (by omega)]
                exact ⟨rfl, k + 1, by simp, ⟨by omega, rfl⟩, by omega⟩
            · obtain rfl : k = source.length := by omega
              (conv => whnf); rw [w64 (x := (i : Int) + 1) (by omega) (by omega)]
              exact ⟨rfl, i + 1, by simp, ⟨by omega, rfl⟩, by omega⟩
        · obtain rfl : i = view.length := by omega
          have st9 := st8
          (conv => whnf); refine vbuild0 sl22 ?_
          intro q20 H20 hq20 hs20 hb20 ha20
          have st20 := st9.new (T := tStr) (xs := []) hq20 hs20 hb20 ha20 rfl rfl (by decide)
          (conv => whnf); refine appD st20 2 sl22 tStr_ones tStr_free rfl (fun k hk => hS k hk) (hvw st20) (by simp; omega) (by decide) fun a21 c21 H21 st21 => ?_
          rw [show ([] : List ByteArray).length + view.length = view.length by simp] at st21 ⊢
          rw [List.nil_append] at st21
          (conv => whnf); refine vbuild0 sl22 ?_
          intro q22 H22 hq22 hs22 hb22 ha22
          have st22 := st21.new (T := tStr) (xs := []) hq22 hs22 hb22 ha22 rfl rfl (by decide)
          (conv => whnf); refine appD st22 3 sl22 tStr_ones tStr_free rfl (fun k hk => hS k hk) (hsw st22) (by simp; omega) (by decide) fun a23 c23 H23 st23 => ?_
          rw [show ([] : List ByteArray).length + source.length = source.length by simp] at st23 ⊢
          rw [List.nil_append] at st23
          have hx23 : SlD tStr (Old H23) H23 a21 c21 view := st23.view 2 rfl
          have hy23 : SlD tStr (Old H23) H23 a23 c23 source := st23.view 3 rfl
          (conv => whnf); refine VCall.mk (spare_c a21 a23 c21 c23 view source (Old H23) H23 (fun k hk => hk) hx23 hy23 (by omega) (by omega)) ?_
          rintro v24 H24 ⟨ha24, hw24⟩
          obtain ⟨a24, c24, rfl, st24'⟩ := st23.got ha24 hw24
          have st24 := st24'.pick [1, 4] (by decide)
          have hspt : spareN view source = spareTo view source source.length := rfl
          have hsl : (asInts (spareN view source)).length = (spareTo view source source.length).length := by unfold asInts; rw [List.length_map, hspt]
          have hsmono : ∀ k, k ≤ source.length → (spareTo view source k).length ≤ (spareTo view source source.length).length := fun k hk => by
            unfold spareTo
            exact (List.Sublist.filter _ (List.range_sublist.2 hk)).length_le
          have hsmall : (spareTo view source source.length).length ≤ source.length := spare_len view source
          (conv => whnf)
          refine VLoop.mk [11, 12] (fun k : Nat => [.int .i64 ((spareTo view source k).length : Int), .int .i64 (k : Int)]) (fun k H25 => k ≤ source.length ∧ H25 = H24) (fun k _ => source.length - k) ?_ ?_
          · (conv => whnf)
            exact ⟨0, rfl, Nat.zero_le _, rfl⟩
          · rintro k H25 junk25 ⟨hk25, rfl⟩
            (conv => whnf); refine VIte.mk (fun hz => ?_) (fun hz => ?_) <;> simp only [decide_eq_true_eq, decide_eq_false_iff_not] at hz
            · have hkl : k < source.length := by omega
              have hsu := spareTo_succ view source k
              have hle1 := hsmono (k + 1) (by omega)
              obtain ⟨b, hb, hb0⟩ := hby.spare hkl
              (conv => whnf); refine VSeq.run ?_
              (conv => whnf); refine ixO sl24 st24 0 rfl hb rfl ?_
              rintro b26 o26 cs26 hS26 hc26 ⟨rfl, -⟩
              (conv => whnf); refine ld1 ct3 hc26.one trivial ?_
              cases hsb : spB view source k with
              | false =>
                rw [hsb] at hb0
                rw [hsb, if_neg Bool.false_ne_true] at hsu
                (conv => whnf); rw [hb0]
                (conv => whnf); rw [w64 (x := (k : Int) + 1) (by omega) (by omega)]
                exact ⟨rfl, k + 1, by simp only [hsu]; rfl, ⟨by omega, rfl⟩, by omega⟩
              | true =>
                rw [hsb] at hb0
                rw [hsb, if_pos rfl] at hsu
                have hsul : (spareTo view source (k + 1)).length = (spareTo view source k).length + 1 := by rw [hsu, List.length_append]; rfl
                have hat := spareTo_at hsb source.length hkl
                have hat2 : (asInts (spareN view source))[(spareTo view source k).length]? = some (k : Int) := by
                  unfold asInts
                  rw [hspt, List.getElem?_map, hat]; rfl
                have e8 : decide (((asInts (spareN view source)).length : Int) ≤ ((spareTo view source k).length : Int)) = false := decide_eq_false (by omega)
                have e9 : ((k : Int) != (k : Int)) = false := by simp
                (conv => whnf); rw [hb0]
                (conv => whnf); rw [e8]
                (conv => whnf); refine ixO sl24 st24 1 rfl hat2 rfl ?_
                rintro b27 o27 cs27 hS27 hc27 ⟨rfl, -⟩
                (conv => whnf); refine ld1 ct3 hc27.one trivial ?_
                (conv => whnf); rw [e9]
                (conv => whnf); rw [w64 (x := ((spareTo view source k).length : Int) + 1) (by omega) (by omega)]
                (conv => whnf); rw [w64 (x := (k : Int) + 1) (by omega) (by omega)]
                exact ⟨rfl, k + 1, by simp only [hsul]; rfl, ⟨by omega, rfl⟩, by omega⟩
            · obtain rfl : k = source.length := by omega
              have e10 : (((spareTo view source source.length).length : Int) == ((asInts (spareN view source)).length : Int)) = true := by rw [hsl]; simp
              (conv => whnf); rw [e10]
              exact ⟨rfl, st24.old⟩
end Go.Proofs.Ytfdlhakfmbdamaa
