/- louperef11.Quote: the walk. -/
import Derived.Test.YtfdlhakfmbdamaaDoorPFl2
set_option linter.unusedVariables false
set_option linter.unusedSimpArgs false
set_option maxRecDepth 100000
namespace Go.Proofs.YtfdlhakfmbdamaaDoor
open Go.VC
set_option maxHeartbeats 16000000 in
theorem rquote_p {H : Heap} {s : ByteArray} (hs : s.size ≤ 4194304) : Pure Tryd.prog 37 #[.string s] H (.string (bA8 (quoteM s))) := by
  refine FnOk.of_vc Tryd.func37 rfl (Tryd.call37 _) ?_
  (conv => whnf); refine vbuild1 sl107 [.int .u8 34] rfl rfl (by decide) (by decide) ?_
  intro q0 H0 hq0 hs0 hb0 ha0
  have st0 : St H H0 [pS tB8 5 none ([] : List Nat).length 0 (natI [])] := ((St.nil H).nils tB8 5).skip hq0 ha0
  (conv => whnf); refine appBytes (l := []) (bs := [34]) st0 0 rfl hb0 (by decide) rfl (by simp) fun a1 cap1 H1 st1 _ => ?_
  (conv => whnf)
  refine VLoop.mk [3, 5] (fun x : Nat × Option Addr × Nat => match x with | (k, a, cap) => [.slice a (qL s k).length cap, .int .i64 (k : Int)])
    (fun x G => match x with | (k, a, cap) => k ≤ s.size ∧ St H G [pS tB8 5 a (qL s k).length cap (natI (qL s k))]) (fun x _ => s.size - x.1) ?_ ?_
  · (conv => whnf)
    exact ⟨(0, a1, cap1), rfl, Nat.zero_le _, st1⟩
  · rintro ⟨k, a, cap⟩ H3 junk3 ⟨hk, st3⟩
    have hln := qL_len s k hk
    (conv => whnf); refine VIte.mk (fun hz => ?_) (fun hz => ?_) <;> simp only [decide_eq_true_eq, decide_eq_false_iff_not] at hz
    · obtain ⟨b, hb⟩ := byte_at (s := s) (k := k) (by omega)
      have hsu := qL_succ hb
      have hc := UInt8.toNat_lt b
      have hq4l := qt_len b.toNat
      (conv => whnf); refine VSeq.run ?_
      (conv => whnf); refine vidxs strT25 rfl hb ?_
      generalize b.toNat = c at *
      have dn : ∀ (k : Nat), c ≠ k → ((c : Int) == (k : Int)) = false := fun k h => beq_eq_false_iff_ne.2 (by omega)
      by_cases h10 : c = 10
      · subst h10
        (conv => whnf); try (refine VSeq.run ?_)
        have hqt : qtM 10 = [92, 110] := rfl
        (conv => whnf); refine vbuild2 sl107 [.int .u8 (92 : Int)] [.int .u8 (110 : Int)] rfl rfl rfl rfl (by decide) (by decide) ?_
        intro q4 H4 hq4 hs4 hb4 ha4
        have st4 := st3.skip hq4 ha4
        (conv => whnf); refine appBytes (bs := qtM 10) st4 0 rfl (by rw [hqt]; exact hb4) (qt_lt hc) (by rw [hqt]; rfl) (by omega) fun a2 cap2 H5 st5 _ => ?_
        (conv => whnf); rw [w64 (x := (k : Int) + 1) (by omega) (by omega)]
        refine ⟨rfl, (k + 1, a2, cap2), ?_, ⟨by omega, ?_⟩, by simp only; omega⟩
        · show [Value.slice a2 _ cap2, Value.int .i64 ((k : Int) + 1)] = [Value.slice a2 (qL s (k + 1)).length cap2, Value.int .i64 ((k + 1 : Nat) : Int)]
          rw [hsu]; rfl
        · show St H H5 [pS tB8 5 a2 (qL s (k + 1)).length cap2 (natI (qL s (k + 1)))]
          rw [hsu]; exact st5
      by_cases h13 : c = 13
      · subst h13
        (conv => whnf); try (refine VSeq.run ?_)
        (conv => whnf); try (refine VSeq.run ?_)
        have hqt : qtM 13 = [92, 114] := rfl
        (conv => whnf); refine vbuild2 sl107 [.int .u8 (92 : Int)] [.int .u8 (114 : Int)] rfl rfl rfl rfl (by decide) (by decide) ?_
        intro q4 H4 hq4 hs4 hb4 ha4
        have st4 := st3.skip hq4 ha4
        (conv => whnf); refine appBytes (bs := qtM 13) st4 0 rfl (by rw [hqt]; exact hb4) (qt_lt hc) (by rw [hqt]; rfl) (by omega) fun a2 cap2 H5 st5 _ => ?_
        (conv => whnf); rw [w64 (x := (k : Int) + 1) (by omega) (by omega)]
        refine ⟨rfl, (k + 1, a2, cap2), ?_, ⟨by omega, ?_⟩, by simp only; omega⟩
        · show [Value.slice a2 _ cap2, Value.int .i64 ((k : Int) + 1)] = [Value.slice a2 (qL s (k + 1)).length cap2, Value.int .i64 ((k + 1 : Nat) : Int)]
          rw [hsu]; rfl
        · show St H H5 [pS tB8 5 a2 (qL s (k + 1)).length cap2 (natI (qL s (k + 1)))]
          rw [hsu]; exact st5
      by_cases h9 : c = 9
      · subst h9
        (conv => whnf); try (refine VSeq.run ?_)
        (conv => whnf); try (refine VSeq.run ?_)
        (conv => whnf); try (refine VSeq.run ?_)
        have hqt : qtM 9 = [92, 116] := rfl
        (conv => whnf); refine vbuild2 sl107 [.int .u8 (92 : Int)] [.int .u8 (116 : Int)] rfl rfl rfl rfl (by decide) (by decide) ?_
        intro q4 H4 hq4 hs4 hb4 ha4
        have st4 := st3.skip hq4 ha4
        (conv => whnf); refine appBytes (bs := qtM 9) st4 0 rfl (by rw [hqt]; exact hb4) (qt_lt hc) (by rw [hqt]; rfl) (by omega) fun a2 cap2 H5 st5 _ => ?_
        (conv => whnf); rw [w64 (x := (k : Int) + 1) (by omega) (by omega)]
        refine ⟨rfl, (k + 1, a2, cap2), ?_, ⟨by omega, ?_⟩, by simp only; omega⟩
        · show [Value.slice a2 _ cap2, Value.int .i64 ((k : Int) + 1)] = [Value.slice a2 (qL s (k + 1)).length cap2, Value.int .i64 ((k + 1 : Nat) : Int)]
          rw [hsu]; rfl
        · show St H H5 [pS tB8 5 a2 (qL s (k + 1)).length cap2 (natI (qL s (k + 1)))]
          rw [hsu]; exact st5
      have b10 : ((c : Int) == 10) = false := dn 10 h10
      have b13 : ((c : Int) == 13) = false := dn 13 h13
      have b9 : ((c : Int) == 9) = false := dn 9 h9
      (conv => whnf); try (refine VSeq.run ?_)
      (conv => whnf); rw [b10]
      (conv => whnf); try (refine VSeq.run ?_)
      (conv => whnf); rw [b13]
      (conv => whnf); try (refine VSeq.run ?_)
      (conv => whnf); rw [b9]
      (conv => whnf); try (refine VSeq.run ?_)
      by_cases hlo : c < 32
      · have d1 : decide ((c : Int) < 32) = true := decide_eq_true (by omega)
        (conv => whnf); rw [d1]
        have hi16 : c / 16 < 16 := by omega
        have hj16 : c % 16 < 16 := by omega
        have hqt : qtM c = [92, 120, hx16 (c / 16), hx16 (c % 16)] := by unfold qtM; rw [if_neg (by omega), if_neg (by omega), if_neg h10, if_neg h13, if_neg h9]
        (conv => whnf); refine VDraw.held (fun k' => k' < H3.size ∧ ¬ slB (.slice a (qL s k).length cap) k') 11 (sq [0,1,2,3,4,5,6,7,8] (.f 9 (.f 10 (.f 11 .e)))) rfl (by kernel_rfl) ?_
        (conv => whnf); refine vquo (b := 16) (by decide) (inU8 hc) ?_
        (conv => whnf); refine vidxs strT25 rfl (hx_at hi16) ?_
        (conv => whnf); refine vrem (b := 16) (by decide) ?_
        (conv => whnf); refine vidxs strT25 rfl (hx_at hj16) ?_
        rw [of8 (hx_lt hi16), of8 (hx_lt hj16)]
        (conv => whnf); refine vbuildL sl107 [.int .u8 (92 : Int), .int .u8 (120 : Int), .int .u8 (hx16 (c / 16) : Int), .int .u8 (hx16 (c % 16) : Int)] [[.int .u8 (92 : Int)], [.int .u8 (120 : Int)], [.int .u8 (hx16 (c / 16) : Int)], [.int .u8 (hx16 (c % 16) : Int)]] rfl (by simp) rfl (by decide) (by decide) ?_
        intro q4 H4 hq4 hs4 hb4 ha4
        have st4 := st3.skip hq4 ha4
        refine ⟨ha4.mono fun k hk => by have := hk.1; omega, ?_⟩
        (conv => whnf); refine appBytes (bs := qtM c) st4 0 rfl (by rw [hqt]; exact hb4) (qt_lt hc) (by rw [hqt]; rfl) (by omega) fun a2 cap2 H5 st5 ha5 => ?_
        refine ⟨(ha4.mono fun k hk => by have := hk.1; omega).trans (ha5.mono fun k hk => ⟨by have := hk.1; omega, hk.2⟩), ?_⟩
        (conv => whnf); rw [w64 (x := (k : Int) + 1) (by omega) (by omega)]
        refine ⟨rfl, (k + 1, a2, cap2), ?_, ⟨by omega, ?_⟩, by simp only; omega⟩
        · show [Value.slice a2 _ cap2, Value.int .i64 ((k : Int) + 1)] = [Value.slice a2 (qL s (k + 1)).length cap2, Value.int .i64 ((k + 1 : Nat) : Int)]
          rw [hsu]; rfl
        · show St H H5 [pS tB8 5 a2 (qL s (k + 1)).length cap2 (natI (qL s (k + 1)))]
          rw [hsu]; exact st5
      have d1 : decide ((c : Int) < 32) = false := decide_eq_false (by omega)
      (conv => whnf); rw [d1]
      by_cases hhi : 126 < c
      · have d2 : decide ((c : Int) > 126) = true := decide_eq_true (by omega)
        (conv => whnf); rw [d2]
        have hi16 : c / 16 < 16 := by omega
        have hj16 : c % 16 < 16 := by omega
        have hqt : qtM c = [92, 120, hx16 (c / 16), hx16 (c % 16)] := by unfold qtM; rw [if_neg (by omega), if_neg (by omega), if_neg h10, if_neg h13, if_neg h9]
        (conv => whnf); refine VDraw.held (fun k' => k' < H3.size ∧ ¬ slB (.slice a (qL s k).length cap) k') 11 (sq [0,1,2,3,4,5,6,7,8] (.f 9 (.f 10 (.f 11 .e)))) rfl (by kernel_rfl) ?_
        (conv => whnf); refine vquo (b := 16) (by decide) (inU8 hc) ?_
        (conv => whnf); refine vidxs strT25 rfl (hx_at hi16) ?_
        (conv => whnf); refine vrem (b := 16) (by decide) ?_
        (conv => whnf); refine vidxs strT25 rfl (hx_at hj16) ?_
        rw [of8 (hx_lt hi16), of8 (hx_lt hj16)]
        (conv => whnf); refine vbuildL sl107 [.int .u8 (92 : Int), .int .u8 (120 : Int), .int .u8 (hx16 (c / 16) : Int), .int .u8 (hx16 (c % 16) : Int)] [[.int .u8 (92 : Int)], [.int .u8 (120 : Int)], [.int .u8 (hx16 (c / 16) : Int)], [.int .u8 (hx16 (c % 16) : Int)]] rfl (by simp) rfl (by decide) (by decide) ?_
        intro q4 H4 hq4 hs4 hb4 ha4
        have st4 := st3.skip hq4 ha4
        refine ⟨ha4.mono fun k hk => by have := hk.1; omega, ?_⟩
        (conv => whnf); refine appBytes (bs := qtM c) st4 0 rfl (by rw [hqt]; exact hb4) (qt_lt hc) (by rw [hqt]; rfl) (by omega) fun a2 cap2 H5 st5 ha5 => ?_
        refine ⟨(ha4.mono fun k hk => by have := hk.1; omega).trans (ha5.mono fun k hk => ⟨by have := hk.1; omega, hk.2⟩), ?_⟩
        (conv => whnf); rw [w64 (x := (k : Int) + 1) (by omega) (by omega)]
        refine ⟨rfl, (k + 1, a2, cap2), ?_, ⟨by omega, ?_⟩, by simp only; omega⟩
        · show [Value.slice a2 _ cap2, Value.int .i64 ((k : Int) + 1)] = [Value.slice a2 (qL s (k + 1)).length cap2, Value.int .i64 ((k + 1 : Nat) : Int)]
          rw [hsu]; rfl
        · show St H H5 [pS tB8 5 a2 (qL s (k + 1)).length cap2 (natI (qL s (k + 1)))]
          rw [hsu]; exact st5
      have d2 : decide ((c : Int) > 126) = false := decide_eq_false (by omega)
      (conv => whnf); rw [d2]
      (conv => whnf); try (refine VSeq.run ?_)
      by_cases h34 : c = 34
      · subst h34
        have hqt : qtM 34 = [92] ++ [34] := rfl
        (conv => whnf); refine vbuild1 sl107 [.int .u8 (92 : Int)] rfl rfl (by decide) (by decide) ?_
        intro q6 H6 hq6 hs6 hb6 ha6
        (conv => whnf); refine appBytes (bs := [92]) (st3.skip hq6 ha6) 0 rfl hb6 (by decide) rfl (by simp only [List.length_singleton]; omega) fun a6 cap6 H7 st7 _ => ?_
        (conv => whnf); try (refine VSeq.run ?_)
        (conv => whnf); refine vbuild1 sl107 [.int .u8 (34 : Int)] rfl rfl (by decide) (by decide) ?_
        intro q4 H4 hq4 hs4 hb4 ha4
        (conv => whnf); refine appBytes (bs := [34]) (st7.skip hq4 ha4) 0 rfl hb4 (by decide) rfl (by simp only [List.length_append, List.length_singleton]; omega) fun a2 cap2 H5 st5 _ => ?_
        rw [List.append_assoc, ← hqt] at st5
        rw [List.append_assoc, ← hqt]
        (conv => whnf); rw [w64 (x := (k : Int) + 1) (by omega) (by omega)]
        refine ⟨rfl, (k + 1, a2, cap2), ?_, ⟨by omega, ?_⟩, by simp only; omega⟩
        · show [Value.slice a2 _ cap2, Value.int .i64 ((k : Int) + 1)] = [Value.slice a2 (qL s (k + 1)).length cap2, Value.int .i64 ((k + 1 : Nat) : Int)]
          rw [hsu]; rfl
        · show St H H5 [pS tB8 5 a2 (qL s (k + 1)).length cap2 (natI (qL s (k + 1)))]
          rw [hsu]; exact st5
      by_cases h92 : c = 92
      · subst h92
        have hqt : qtM 92 = [92] ++ [92] := rfl
        (conv => whnf); refine vbuild1 sl107 [.int .u8 (92 : Int)] rfl rfl (by decide) (by decide) ?_
        intro q6 H6 hq6 hs6 hb6 ha6
        (conv => whnf); refine appBytes (bs := [92]) (st3.skip hq6 ha6) 0 rfl hb6 (by decide) rfl (by simp only [List.length_singleton]; omega) fun a6 cap6 H7 st7 _ => ?_
        (conv => whnf); try (refine VSeq.run ?_)
        (conv => whnf); refine vbuild1 sl107 [.int .u8 (92 : Int)] rfl rfl (by decide) (by decide) ?_
        intro q4 H4 hq4 hs4 hb4 ha4
        (conv => whnf); refine appBytes (bs := [92]) (st7.skip hq4 ha4) 0 rfl hb4 (by decide) rfl (by simp only [List.length_append, List.length_singleton]; omega) fun a2 cap2 H5 st5 _ => ?_
        rw [List.append_assoc, ← hqt] at st5
        rw [List.append_assoc, ← hqt]
        (conv => whnf); rw [w64 (x := (k : Int) + 1) (by omega) (by omega)]
        refine ⟨rfl, (k + 1, a2, cap2), ?_, ⟨by omega, ?_⟩, by simp only; omega⟩
        · show [Value.slice a2 _ cap2, Value.int .i64 ((k : Int) + 1)] = [Value.slice a2 (qL s (k + 1)).length cap2, Value.int .i64 ((k + 1 : Nat) : Int)]
          rw [hsu]; rfl
        · show St H H5 [pS tB8 5 a2 (qL s (k + 1)).length cap2 (natI (qL s (k + 1)))]
          rw [hsu]; exact st5
      have b34 : ((c : Int) == 34) = false := dn 34 h34
      have b92 : ((c : Int) == 92) = false := dn 92 h92
      (conv => whnf); rw [b34]
      (conv => whnf); rw [b92]
      (conv => whnf); try (refine VSeq.run ?_)
      have hqt : qtM c = [c] := by unfold qtM; rw [if_neg (by omega), if_pos (by omega)]
      (conv => whnf); refine vbuild1 sl107 [.int .u8 (c : Int)] rfl rfl (by decide) (by decide) ?_
      intro q4 H4 hq4 hs4 hb4 ha4
      have st4 := st3.skip hq4 ha4
      (conv => whnf); refine appBytes (bs := qtM c) st4 0 rfl (by rw [hqt]; exact hb4) (qt_lt hc) (by rw [hqt]; rfl) (by omega) fun a2 cap2 H5 st5 _ => ?_
      (conv => whnf); rw [w64 (x := (k : Int) + 1) (by omega) (by omega)]
      refine ⟨rfl, (k + 1, a2, cap2), ?_, ⟨by omega, ?_⟩, by simp only; omega⟩
      · show [Value.slice a2 _ cap2, Value.int .i64 ((k : Int) + 1)] = [Value.slice a2 (qL s (k + 1)).length cap2, Value.int .i64 ((k + 1 : Nat) : Int)]
        rw [hsu]; rfl
      · show St H H5 [pS tB8 5 a2 (qL s (k + 1)).length cap2 (natI (qL s (k + 1)))]
        rw [hsu]; exact st5
    · obtain rfl : k = s.size := by omega
      (conv => whnf); refine vbuild1 sl107 [.int .u8 34] rfl rfl (by decide) (by decide) ?_
      intro q4 H4 hq4 hs4 hb4 ha4
      (conv => whnf); refine appBytes (bs := [34]) (st3.skip hq4 ha4) 0 rfl hb4 (by decide) rfl (by simp only [List.length_singleton]; omega) fun a2 cap2 H5 st5 _ => ?_
      (conv => whnf); refine vstrOut (quoteM s) st5 0 rfl rfl rfl rfl ?_
      (conv => whnf)
      exact ⟨rfl, st5.old⟩
end Go.Proofs.YtfdlhakfmbdamaaDoor
