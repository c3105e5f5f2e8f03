/- keys.Spare: the walk. -/
import Derived.Test.YtfdlhakfmbdamaaPKSp
import Derived.Test.YtfdlhakfmbdamaaPSort
import Derived.Test.YtfdlhakfmbdamaaVSplit
set_option linter.unusedVariables false
set_option linter.unusedSimpArgs false
set_option maxRecDepth 100000
namespace Go.Proofs.Ytfdlhakfmbdamaa
open Go.VC
def cntV (n : Nat) : Value := .int .i64 (n : Int)
/-- How many of each key the view's first i hold. -/
def cntM (view : List ByteArray) (i : Nat) (k : ByteArray) : Option Value := if countTo view i k = 0 then none else some (cntV (countTo view i k))
/-- How many of each key are left, when the source's first i have been looked at. -/
def leftM (view source : List ByteArray) (i : Nat) (k : ByteArray) : Option Value := if countTo view view.length k = 0 then none else some (cntV (countTo view view.length k - countTo source i k))
theorem count_le (view : List ByteArray) (i : Nat) (k : ByteArray) : countTo view i k ≤ view.length := by
  unfold countTo
  exact Nat.le_trans (List.length_filter_le _ _) (by rw [List.length_take]; omega)
theorem cntM_get (view : List ByteArray) (i : Nat) (k : ByteArray) : (cntM view i k).getD (.int .i64 0) = .int .i64 (countTo view i k : Int) := by
  unfold cntM
  split
  · rename_i h; rw [h]; rfl
  · rfl
theorem leftM_get (view source : List ByteArray) (i : Nat) (k : ByteArray) : (leftM view source i k).getD (.int .i64 0) = .int .i64 ((countTo view view.length k - countTo source i k : Nat) : Int) := by
  unfold leftM
  split
  · rename_i h; rw [h, Nat.zero_sub]; rfl
  · rfl
theorem cntM_put {view : List ByteArray} {i : Nat} {x : ByteArray} (h : view[i]? = some x) (k : ByteArray) : put (cntM view i) x (some (.int .i64 ((countTo view i x : Int) + 1))) k = cntM view (i + 1) k := by
  by_cases hk : k = x
  · subst hk
    rw [put_self]
    unfold cntM
    rw [count_succ h, same_self, if_pos rfl, if_neg (by omega)]; rfl
  · rw [put_ne hk]
    unfold cntM
    rw [count_succ h, same_ne (Ne.symm hk), if_neg Bool.false_ne_true, Nat.add_zero]
theorem leftM_put {view source : List ByteArray} {i : Nat} {x : ByteArray} (h : source[i]? = some x) (hs : spB view source i = false) (k : ByteArray) :
    put (leftM view source i) x (some (.int .i64 (((countTo view view.length x - countTo source i x : Nat) : Int) - 1))) k = leftM view source (i + 1) k := by
  rw [spB_at h, decide_eq_false_iff_not] at hs
  by_cases hk : k = x
  · subst hk
    rw [put_self]
    unfold leftM
    rw [count_succ h, same_self, if_pos rfl, if_neg (by omega)]
    unfold cntV
    rw [show (((countTo view view.length k - countTo source i k : Nat) : Int) - 1) = ((countTo view view.length k - (countTo source i k + 1) : Nat) : Int) by omega]
  · rw [put_ne hk]
    unfold leftM
    rw [count_succ h, same_ne (Ne.symm hk), if_neg Bool.false_ne_true, Nat.add_zero]
theorem leftM_same {view source : List ByteArray} {i : Nat} {x : ByteArray} (h : source[i]? = some x) (hs : spB view source i = true) (k : ByteArray) : leftM view source i k = leftM view source (i + 1) k := by
  rw [spB_at h, decide_eq_true_eq] at hs
  unfold leftM
  by_cases hk : k = x
  · subst hk
    rw [count_succ h, same_self, if_pos rfl, show countTo view view.length k - countTo source i k = 0 by omega, show countTo view view.length k - (countTo source i k + 1) = 0 by omega]
  · rw [count_succ h, same_ne (Ne.symm hk), if_neg Bool.false_ne_true, Nat.add_zero]
theorem mapC : MapT Try.prog 34 9 3 .string (.int .i64 0) := ⟨rfl, rfl, rfl⟩
theorem mapR : MapT Try.prog 35 9 24 .string (.slice none 0 0) := ⟨rfl, rfl, rfl⟩
theorem mapRW : MapTW Try.prog 35 9 24 (.slice none 0 0) := ⟨rfl, rfl⟩
theorem tI_ones : tI.Ones := by
  rintro S H cs x ⟨rfl, _⟩ u hu
  cases List.mem_singleton.1 hu; rfl
theorem tI_free : tI.Free := fun S S' H H' cs x h => h
theorem flat_len {view source : List ByteArray} {ds : List ByteArray} (hn : ds.Nodup) : (ds.flatMap (restTo view source source.length)).length ≤ source.length := by
  have := List.Nodup.length_le_of_subset (flat_nodup view source source.length ds hn) (l₂ := List.range source.length) fun j hj => by
    obtain ⟨k, -, hk⟩ := List.mem_flatMap.1 hj
    exact List.mem_range.2 (rest_mem.1 hk).1
  rwa [List.length_range] at this
set_option maxHeartbeats 4000000 in
theorem spare_c (va sa : Option Addr) (vc sc : Nat) (view source : List ByteArray) (S : Nat → Prop) (H : Heap) (hS : ∀ k, S k → k < H.size) (hv : SlD tStr S H va vc view) (hs : SlD tStr S H sa sc source) (nv : view.length ≤ 4194304) (ns : source.length ≤ 4194304) :
    FnOk Try.prog 14 #[.slice va view.length vc, .slice sa source.length sc] H fun v H' => Agr (Old H) H H' ∧ SlO tI none_ H' H.size 3 v (asInts (spareN view source)) := by
  refine FnOk.of_vc Try.func14 rfl (Try.call14 _) ?_
  (conv => whnf); refine mmake (enc := Value.string) ?_
  intro lb H1 hlb hs1 hm1 ha1
  have hA1 : Agr (Old H) H H1 := ha1.mono fun j hj => by unfold Old at hj; omega
  (conv => whnf)
  refine VLoop.mk [17] (fun i : Nat => [.int .i64 i]) (fun i H2 => i ≤ view.length ∧ Agr (fun j => j < lb) H1 H2 ∧ H2.size = H1.size ∧ MapF Value.string H2 lb (cntM view i)) (fun i _ => view.length - i) ?_ ?_
  · (conv => whnf)
    exact ⟨0, rfl, by omega, Agr.refl _ _, rfl, hm1.ext fun k => by simp [cntM, countTo]⟩
  · rintro i H2 junk ⟨hi, ha2, hs2, hm2⟩
    have hA2 : Agr (Old H) H H2 := hA1.trans (ha2.mono fun j hj => by unfold Old at hj; omega)
    (conv => whnf); refine VIte.mk (fun h => ?_) (fun h => ?_) <;> simp only [decide_eq_true_eq, decide_eq_false_iff_not] at h
    · obtain ⟨x, hx⟩ := get_some (l := view) (k := i) (by omega)
      have hcl := count_le view i x
      (conv => whnf); refine ixr sl22 (hv.frame (hA2.mono hS)) hx rfl ?_
      rintro b3 o3 cs3 hSb3 hcells3 ⟨rfl, hxl⟩
      (conv => whnf); refine ld1 ct9 hcells3.one trivial ?_
      (conv => whnf); refine mlook (a := x) mapC keyS hm2 trivial ?_
      rw [cntM_get]
      (conv => whnf); rw [w64 (x := (countTo view i x : Int) + 1) (by omega) (by omega)]
      (conv => whnf); refine mput (a := x) mapC keyS hm2 ?_
      intro H3 hm3 ha3 hs3
      (conv => whnf); rw [w64 (x := (i : Int) + 1) (by omega) (by omega)]
      exact ⟨rfl, i + 1, by simp, ⟨by omega, ha2.trans (ha3.mono fun j hj => by omega), by omega, hm3.ext (cntM_put hx)⟩, by omega⟩
    · obtain rfl : i = view.length := by omega
      (conv => whnf); refine mmake (enc := Value.string) ?_
      intro rb H3 hrb hs3 hm3 ha3
      have hA3 : Agr (Old H) H H3 := hA2.trans (ha3.mono fun j hj => by have := old_lt hA2 hj; omega)
      have hl3 : MapF Value.string H3 lb (cntM view view.length) := hm2.agr ha3 (by omega)
      (conv => whnf)
      refine VLoop.mk [29] (fun i : Nat => [.int .i64 i]) (fun i H4 => i ≤ source.length ∧ Agr (fun j => j < lb) H3 H4 ∧ H3.size ≤ H4.size ∧ MapF Value.string H4 lb (leftM view source i) ∧ ∃ m, Qs Value.string tI H4 (rb + 1) 3 rb m (fun k => asInts (restTo view source i k))) (fun i _ => source.length - i) ?_ ?_
      · (conv => whnf)
        exact ⟨0, rfl, by omega, Agr.refl _ _, by omega, hl3.ext fun k => by simp [leftM, cntM, countTo], _, (Qs.new hm3 (by omega)).ext fun k => rfl⟩
      · rintro i H4 junk4 ⟨hi, ha4, hs4, hl4, m, hq⟩
        have hA4 : Agr (Old H) H H4 := hA3.trans (ha4.mono fun j hj => by unfold Old at hj; omega)
        (conv => whnf); refine VIte.mk (fun h => ?_) (fun h => ?_) <;> simp only [decide_eq_true_eq, decide_eq_false_iff_not] at h
        · obtain ⟨x, hx⟩ := get_some (l := source) (k := i) (by omega)
          have hcl := count_le view view.length x
          have hrs := rest_succ (view := view) hx
          (conv => whnf); refine VSeq.run ?_
          (conv => whnf); refine ixr sl22 (hs.frame (hA4.mono hS)) hx rfl ?_
          rintro b5 o5 cs5 hSb5 hcells5 ⟨rfl, hxl⟩
          (conv => whnf); refine ld1 ct9 hcells5.one trivial ?_
          (conv => whnf); refine mlook (a := x) mapC keyS hl4 trivial ?_
          rw [leftM_get]
          (conv => whnf); refine VIte.mk (fun hz => ?_) (fun hz => ?_) <;> simp only [decide_eq_true_eq, decide_eq_false_iff_not] at hz
          · have hsp : spB view source i = false := by
              rw [spB_at hx]
              exact decide_eq_false (by omega)
            (conv => whnf); refine mlook (a := x) mapC keyS hl4 trivial ?_
            rw [leftM_get]
            (conv => whnf); rw [w64 (x := ((countTo view view.length x - countTo source i x : Nat) : Int) - 1) (by omega) (by omega)]
            (conv => whnf); refine mput (a := x) mapC keyS hl4 ?_
            intro H5 hm5 ha5 hs5
            (conv => whnf); rw [w64 (x := (i : Int) + 1) (by omega) (by omega)]
            refine ⟨rfl, i + 1, by simp, ⟨by omega, ha4.trans (ha5.mono fun j hj => by omega), by omega, hm5.ext (leftM_put hx hsp), m, (hq.agr ha5 (by omega) (fun b hb _ => by omega)).ext fun k => ?_⟩, by omega⟩
            rw [hrs, hsp]; rfl
          · have hsp : spB view source i = true := by
              rw [spB_at hx]
              exact decide_eq_true (by omega)
            have hlen : (asInts (restTo view source i x)).length ≤ i := by
              unfold asInts
              rw [List.length_map]
              exact rest_len _ _ _ _
            (conv => whnf); refine mlook (a := x) mapR keyS hq.map trivial ?_
            (conv => whnf); refine vbuild1 sl24 [.int .i64 (i : Int)] rfl rfl (by decide) (by decide) ?_
            intro q5 H5 hq5 hs5 hb5 ha5
            have hm2' := hq.map.lt
            have hq' := hq.agr ha5 (by omega) (fun b _ hb => by omega)
            (conv => whnf); refine vappendO (T := tI) (S := fun _ => False) (ys := [(i : Int)]) (ds := [.int .i64 (i : Int)]) (lo := rb + 1) (xs := asInts (restTo view source i x)) sl24 (hq'.own x) (by omega) (fun k hk => hk.elim)
              (hb5.cells (fun j v hv => by simpa using hv)) (Ty.reps_one ⟨rfl, inI64 (by omega)⟩) rfl (by intro u hu; cases List.mem_singleton.1 hu; rfl) (by simp only [maxLen, List.length_singleton]; omega) (by simp only [List.length_singleton]; omega) ?_
            intro v6 H6 hown6 ha6 hs6 hfresh6
            have hrb4 : rb < H5.size ∧ ¬ slB (slAt m x) rb := ⟨by omega, fun hb => by have := ((hq'.own x).lt hb).1; omega⟩
            (conv => whnf); refine mput (a := x) mapR keyS (hq'.map.agr ha6 hrb4) ?_
            intro H7 hm7 ha7 hs7
            have hq7 := hq'.push hown6 ha6 hfresh6 hm7 ha7
            have hlow : Agr (fun j => j < rb) H4 H7 := ((ha5.mono fun j hj => by omega).trans (ha6.mono fun j hj => ⟨by omega, fun hb => by have := ((hq'.own x).lt hb).1; omega⟩)).trans (ha7.mono fun j hj => by omega)
            (conv => whnf); rw [w64 (x := (i : Int) + 1) (by omega) (by omega)]
            refine ⟨rfl, i + 1, by simp, ⟨by omega, ha4.trans (hlow.mono fun j hj => by omega), by omega, (hl4.agr hlow (by omega)).ext (leftM_same hx hsp), _, hq7.ext fun k => ?_⟩, by omega⟩
            rw [hrs]
            by_cases hk : k = x
            · subst hk
              rw [upd_self, hsp, same_self]
              simp [asInts]
            · rw [upd_ne hk, same_ne (Ne.symm hk), Bool.and_false]; rfl
        · obtain rfl : i = source.length := by omega
          have hm4 := hq.map.lt
          have hback : ∀ k, restTo view source source.length k ≠ [] → (m k).isSome = true := fun k hk => by
            cases hmk : m k with
            | some v => rfl
            | none =>
              obtain ⟨a, cap, h1, h2⟩ := hq.view k
              have e : slAt m k = .slice none 0 0 := by unfold slAt; rw [hmk]; rfl
              rw [e] at h1
              injection h1 with _ h3 _
              have : restTo view source source.length k = [] := List.eq_nil_of_length_eq_zero (by unfold asInts at h3; rw [List.length_map] at h3; omega)
              exact absurd this hk
          (conv => whnf); refine mrange mapRW hq.map.toW fun rr n0 H5 hrr hs5 hit5 ha5 => ?_
          have hview : ∀ k, ∃ a cap, slAt m k = .slice a (asInts (restTo view source source.length k)).length cap ∧ SlD tI (fun j => rb + 1 ≤ j ∧ j < H4.size) H4 a cap (asInts (restTo view source source.length k)) := hq.view
          have hA5 : Agr (Old H) H H5 := hA4.trans (ha5.mono fun j hj => old_lt hA4 hj)
          (conv => whnf)
          refine VLoop.mk [11] (fun x : Nat × List ByteArray × Option Addr × Nat => match x with | (n, ds, a, c) => [.slice a (asInts (ds.flatMap (restTo view source source.length))).length c])
            (fun x H6 => (∃ last, IterW anyK Value.string H6 rb rr m (fun k => k ∈ x.2.1) last x.1) ∧ x.2.1.Nodup ∧ Agr (fun j => j < rr) H5 H6 ∧ H5.size ≤ H6.size ∧ SlO tI none_ H6 (rr + 1) 3 (.slice x.2.2.1 (asInts (x.2.1.flatMap (restTo view source source.length))).length x.2.2.2) (asInts (x.2.1.flatMap (restTo view source source.length)))) (fun x _ => x.1) ?_ ?_
          · (conv => whnf)
            exact ⟨(n0, [], none, 0), rfl, ⟨none, hit5.ext (fun a b => strV_inj a b) fun a _ => by simp⟩, List.Pairwise.nil, Agr.refl _ _, by omega, SlO.nil⟩
          · rintro ⟨n, ds, a6, c6⟩ H6 junk6 ⟨⟨last, hit6⟩, hnd, ha6, hs6, hown6⟩
            simp only at hit6 hnd ha6 hs6 hown6
            have hA6 : Agr (Old H) H H6 := hA5.trans (ha6.mono fun j hj => by unfold Old at hj; omega)
            have hfl := flat_len (view := view) (source := source) hnd
            (conv => whnf); refine mnext (fun a b => strV_inj a b) hit6 (fun hall => ?_) fun k v H7 n' hmk hnk hlt hit7 ha7 hs7 => ?_
            · have hperm := flat_spare (view := view) (source := source) hnd fun k hk => hall k (hback k hk)
              obtain ⟨a7, c7, e7, st7⟩ := (St.nil H).got hA6 (hown6.lower (by omega))
              injection e7 with e8 _ e9
              subst e8; subst e9
              (conv => whnf); refine sortI sorts_ st7 0 rfl (by unfold asInts; rw [List.length_map]; omega) fun H7 st8 => ?_
              rw [sort_spare hperm] at st8
              (conv => whnf)
              exact ⟨st8.old, St.own st8 0 rfl⟩
            · have hin : (m k).isSome = true := by rw [hmk]; rfl
              have hsv : slAt m k = v := by unfold slAt; rw [hmk]; rfl
              (conv => whnf); refine mhere hit7 (fun a b => strV_inj a b) hmk ?_
              obtain ⟨ka, kc, hk1, hk2⟩ := hview k
              rw [hsv] at hk1
              subst hk1
              have hA57 : Agr (fun j => j < rr) H5 H7 := ha6.trans (ha7.mono fun j hj => by omega)
              have hfl2 := flat_len (view := view) (source := source) (ds := ds ++ [k]) (List.nodup_append.2 ⟨hnd, List.pairwise_singleton _ _, fun a ha b hb e => hnk (by rw [List.mem_singleton] at hb; subst hb; subst e; exact ha)⟩)
              rw [List.flatMap_append, List.flatMap_cons, List.flatMap_nil, List.append_nil, List.length_append] at hfl2
              have hown7 := hown6.agr ha7 (fun b hb => by have := (hown6.lt hb).1; omega) (fun _ f => f.elim)
              have hsrc : SlD tI (fun j => rb + 1 ≤ j ∧ j < rr) H7 ka kc (asInts (restTo view source source.length k)) := (hk2.frame ((ha5.mono fun j hj => by omega).trans (hA57.mono fun j hj => by omega))).mono fun j hj => by omega
              (conv => whnf); refine vappendD (T := tI) (S := fun j => rb + 1 ≤ j ∧ j < rr) (lo := rr + 1) sl24 tI_ones (hown7.free tI_free) (by omega) (fun j hj => ⟨by omega, fun hb => by have := (hown7.lt hb).1; omega⟩) hsrc (by unfold maxLen asInts; simp only [List.length_map]; omega) (by unfold asInts; simp only [List.length_map]; omega) ?_
              intro v8 H8 hown8 ha8 hs8 hf8
              have hown8' : SlO tI none_ H8 (rr + 1) 3 v8 _ := hown8.free tI_free
              obtain ⟨a8, c8, rfl⟩ := hown8'.hull
              have hflat : asInts (ds.flatMap (restTo view source source.length)) ++ asInts (restTo view source source.length k) = asInts ((ds ++ [k]).flatMap (restTo view source source.length)) := by
                unfold asInts
                rw [List.flatMap_append, List.flatMap_cons, List.flatMap_nil, List.append_nil, List.map_append]
              rw [hflat] at hown8' ⊢
              have hlow8 : Agr (fun j => j ≤ rr) H7 H8 := ha8.mono fun j hj => ⟨by omega, fun hb => by have := (hown7.lt hb).1; omega⟩
              (conv => whnf)
              refine ⟨rfl, (n', ds ++ [k], a8, c8), rfl, ⟨⟨some k, (hit7.agr hlow8 (by omega) (by omega)).ext (fun a b => strV_inj a b) fun a _ => by simp⟩, ?_, hA57.trans (hlow8.mono fun j hj => by omega), by omega, hown8'⟩, hlt⟩
              exact List.nodup_append.2 ⟨hnd, List.pairwise_singleton _ _, fun a ha b hb e => hnk (by rw [List.mem_singleton] at hb; subst hb; subst e; exact ha)⟩
end Go.Proofs.Ytfdlhakfmbdamaa
