/- place.Quote and the document's Quote: the walks. -/
import Derived.Test.YtfdlhakfmbdamaaDoorPFl1
set_option linter.unusedVariables false
set_option linter.unusedSimpArgs false
set_option maxRecDepth 100000
namespace Go.Proofs.YtfdlhakfmbdamaaDoor
open Go.VC
def hx16 (n : Nat) : Nat := if n < 10 then 48 + n else 87 + n
theorem hx_at {i : Nat} (hi : i < 16) : (⟨#[48, 49, 50, 51, 52, 53, 54, 55, 56, 57, 97, 98, 99, 100, 101, 102]⟩ : ByteArray).data[i]? = some (UInt8.ofNat (hx16 i)) := by
  have : ∀ i : Fin 16, (⟨#[48, 49, 50, 51, 52, 53, 54, 55, 56, 57, 97, 98, 99, 100, 101, 102]⟩ : ByteArray).data[i.1]? = some (UInt8.ofNat (hx16 i.1)) := by decide
  exact this ⟨i, hi⟩
theorem hx_lt {i : Nat} (hi : i < 16) : hx16 i < 256 := by unfold hx16; split <;> omega
theorem of8 {n : Nat} (h : n < 256) : (UInt8.ofNat n).toNat = n := by rw [UInt8.toNat_ofNat']; omega
theorem take_snoc25 {α : Type} {l : List α} {k : Nat} {x : α} (h : l[k]? = some x) : l.take (k + 1) = l.take k ++ [x] := by
  rw [List.take_add_one, h]; rfl
def bA8 (w : List Nat) : ByteArray := ⟨(w.map UInt8.ofNat).toArray⟩
/-- A byte in quotes. -/
def qtM (c : Nat) : List Nat := if c = 34 ∨ c = 92 then [92, c] else if 32 ≤ c ∧ c ≤ 126 then [c] else if c = 10 then [92, 110] else if c = 13 then [92, 114] else if c = 9 then [92, 116] else [92, 120, hx16 (c / 16), hx16 (c % 16)]
theorem qt_len (c : Nat) : (qtM c).length ≤ 4 := by
  unfold qtM
  repeat' split
  all_goals simp
theorem qt_lt {c : Nat} (h : c < 256) : ∀ x ∈ qtM c, x < 256 := by
  have h1 := hx_lt (show c / 16 < 16 by omega)
  have h2 := hx_lt (show c % 16 < 16 by omega)
  unfold qtM
  intro x hx
  repeat' split at hx
  all_goals
    simp only [List.mem_cons, List.not_mem_nil, or_false] at hx
    omega
/-- The first k bytes in quotes, behind a quote. -/
def qL (s : ByteArray) (k : Nat) : List Nat := 34 :: (s.data.toList.take k).flatMap fun b => qtM b.toNat
def quoteM (s : ByteArray) : List Nat := qL s s.size ++ [34]
theorem qL_zero (s : ByteArray) : qL s 0 = [34] := rfl
theorem qL_succ {s : ByteArray} {k : Nat} {b : UInt8} (hb : s.data[k]? = some b) : qL s (k + 1) = qL s k ++ qtM b.toNat := by
  unfold qL
  rw [take_snoc25 (show s.data.toList[k]? = some b by rw [Array.getElem?_toList]; exact hb), List.flatMap_append]
  simp
theorem qL_len (s : ByteArray) : ∀ k, k ≤ s.size → (qL s k).length ≤ 1 + 4 * k
  | 0, _ => by simp [qL]
  | k + 1, h => by
    obtain ⟨b, hb⟩ := byte_at (s := s) (k := k) (by omega)
    rw [qL_succ hb, List.length_append]
    have := qL_len s k (by omega)
    have := qt_len b.toNat
    omega
section
variable {B : Nat → Prop} {H0 H : Heap} {ps : List Pc} {a : Option Addr} {cap q m c2 : Nat} {l bs : List Nat} {K : Value → Heap → Prop}
/-- Bytes laid in new memory, appended to an own slice of bytes. -/
theorem appBytes (st : StB B H0 H ps) (i : Nat) (hp : ps[i]? = some (pS tB8 5 a l.length cap (natI l))) (hd : Blk H q 5 ((natI bs).map (Value.int .u8))) (hbs : ∀ x ∈ bs, x < 256) (hm : m = bs.length) (hl : l.length + bs.length ≤ 67108864)
    (k : ∀ a' cap' H', StB B H0 H' (ps.set i (pS tB8 5 a' (l ++ bs).length cap' (natI (l ++ bs)))) → Agr (fun k => k < H.size ∧ ¬ slB (.slice a l.length cap) k) H H' → K (.slice a' (l ++ bs).length cap') H') : VEff Tryd.prog (Builtin.append_ #[107, 107] 107 [.slice a l.length cap, .slice (some ⟨q, 0, none⟩) m c2].toArray) H K := by
  refine appG (ys := natI bs) (ds := (natI bs).map (Value.int .u8)) st i sl107 hp (hd.cells fun j v hv => by rw [Nat.zero_add]; exact hv) (b8_reps (natI_u8 hbs)) (by rw [natI_len]; exact hm) (fun u hu => by
    obtain ⟨x, -, rfl⟩ := List.mem_map.1 hu
    rfl) (by rw [natI_len, natI_len]; unfold maxLen; omega) (by rw [natI_len, natI_len]; omega) fun a' cap' H' st' ha' => ?_
  have e1 : (natI l).length + (natI bs).length = (l ++ bs).length := by rw [natI_len, natI_len, List.length_append]
  rw [e1, natI_app] at st'
  rw [e1]
  exact k a' cap' H' st' ha'
theorem appText (st : StB B H0 H ps) (i : Nat) (hp : ps[i]? = some (pS tB8 5 a l.length cap (natI l))) {s : ByteArray} (hs : strI s = natI bs) (hl : l.length + bs.length ≤ 67108864)
    (k : ∀ a' cap' H', StB B H0 H' (ps.set i (pS tB8 5 a' (l ++ bs).length cap' (natI (l ++ bs)))) → K (.slice a' (l ++ bs).length cap') H') : VEff Tryd.prog (Builtin.append_ #[107, 9] 107 [.slice a l.length cap, .string s].toArray) H K := by
  have hz : s.size = bs.length := by rw [← strI_len, hs, natI_len]
  refine appStr (s := s) st i sl107 strT25 hp (by rw [natI_len]; unfold maxLen; omega) (by rw [natI_len]; omega) fun a' cap' H' st' => ?_
  have e1 : (natI l).length + s.size = (l ++ bs).length := by rw [natI_len, hz, List.length_append]
  rw [e1, hs, natI_app] at st'
  rw [e1]
  exact k a' cap' H' st'
end
set_option maxHeartbeats 16000000 in
theorem quote_p {H : Heap} {s : ByteArray} (hs : s.size ≤ 4194304) : Pure Tryd.prog 31 #[.string s] H (.string (bA8 (quoteM s))) := by
  refine FnOk.of_vc Tryd.func31 rfl (Tryd.call31 _) ?_
  (conv => whnf); refine vbuild1 sl107 [.int .u8 34] rfl rfl (by decide) (by decide) ?_
  intro q1 H1 hq1 hs1 hb1 ha1
  have st1 := (St.nil H).new (T := tB8) (n := 1) (xs := natI [34]) hq1 hs1 hb1 ha1 (b8_reps (xs := natI [34]) (natI_u8 (by decide))) (by simp [natI]) (by unfold maxLen; decide)
  (conv => whnf)
  refine VLoop.mk [3, 9] (fun x : Nat × Option Addr × Nat => match x with | (k, a, cap) => [.slice a (qL s k).length cap, .int .i64 (k : Int)])
    (fun x G => match x with | (k, a, cap) => k ≤ s.size ∧ St H G [pS tB8 5 a (qL s k).length cap (natI (qL s k))]) (fun x _ => s.size - x.1) ?_ ?_
  · (conv => whnf)
    exact ⟨(0, some ⟨q1, 0, none⟩, 1), rfl, Nat.zero_le _, st1⟩
  · rintro ⟨k, a, cap⟩ H3 junk3 ⟨hk, st3⟩
    have hln := qL_len s k hk
    (conv => whnf); refine VIte.mk (fun hz => ?_) (fun hz => ?_) <;> simp only [decide_eq_true_eq, decide_eq_false_iff_not] at hz
    · obtain ⟨b, hb⟩ := byte_at (s := s) (k := k) (by omega)
      have hsu := qL_succ hb
      have hc := UInt8.toNat_lt b
      have hq4l := qt_len b.toNat
      (conv => whnf); refine VSeq.run ?_
      (conv => whnf); refine vidxs strT25 rfl hb ?_
      generalize b.toNat = c at *
      have dn : ∀ (k : Nat), c ≠ k → ((c : Int) == (k : Int)) = false := fun k h => beq_eq_false_iff_ne.2 (by omega)
      (conv => whnf); try (refine VSeq.run ?_)
      by_cases h34 : c = 34
      · subst h34
        have hqt : qtM 34 = [92, 34] := rfl
        (conv => whnf); refine vbuild2 sl107 [.int .u8 (92 : Int)] [.int .u8 (34 : Int)] rfl rfl rfl rfl (by decide) (by decide) ?_
        intro q4 H4 hq4 hs4 hb4 ha4
        have st4 := st3.skip hq4 ha4
        (conv => whnf); refine appBytes (bs := qtM 34) st4 0 rfl (by rw [hqt]; exact hb4) (qt_lt hc) (by rw [hqt]; rfl) (by omega) fun a2 cap2 H5 st5 _ => ?_
        (conv => whnf); rw [w64 (x := (k : Int) + 1) (by omega) (by omega)]
        refine ⟨rfl, (k + 1, a2, cap2), ?_, ⟨by omega, ?_⟩, by simp only; omega⟩
        · show [Value.slice a2 _ cap2, Value.int .i64 ((k : Int) + 1)] = [Value.slice a2 (qL s (k + 1)).length cap2, Value.int .i64 ((k + 1 : Nat) : Int)]
          rw [hsu]; rfl
        · show St H H5 [pS tB8 5 a2 (qL s (k + 1)).length cap2 (natI (qL s (k + 1)))]
          rw [hsu]; exact st5
      by_cases h92 : c = 92
      · subst h92
        have hqt : qtM 92 = [92, 92] := rfl
        (conv => whnf); refine vbuild2 sl107 [.int .u8 (92 : Int)] [.int .u8 (92 : Int)] rfl rfl rfl rfl (by decide) (by decide) ?_
        intro q4 H4 hq4 hs4 hb4 ha4
        have st4 := st3.skip hq4 ha4
        (conv => whnf); refine appBytes (bs := qtM 92) st4 0 rfl (by rw [hqt]; exact hb4) (qt_lt hc) (by rw [hqt]; rfl) (by omega) fun a2 cap2 H5 st5 _ => ?_
        (conv => whnf); rw [w64 (x := (k : Int) + 1) (by omega) (by omega)]
        refine ⟨rfl, (k + 1, a2, cap2), ?_, ⟨by omega, ?_⟩, by simp only; omega⟩
        · show [Value.slice a2 _ cap2, Value.int .i64 ((k : Int) + 1)] = [Value.slice a2 (qL s (k + 1)).length cap2, Value.int .i64 ((k + 1 : Nat) : Int)]
          rw [hsu]; rfl
        · show St H H5 [pS tB8 5 a2 (qL s (k + 1)).length cap2 (natI (qL s (k + 1)))]
          rw [hsu]; exact st5
      have b34 : ((c : Int) == 34) = false := dn 34 h34
      have b92 : ((c : Int) == 92) = false := dn 92 h92
      (conv => whnf); rw [b34]
      (conv => whnf); rw [b92]
      (conv => whnf); try (refine VSeq.run ?_)
      by_cases hin : 32 ≤ c ∧ c ≤ 126
      · have d1 : decide ((c : Int) ≥ 32) = true := decide_eq_true (by omega)
        have d2 : decide ((c : Int) ≤ 126) = true := decide_eq_true (by omega)
        (conv => whnf); rw [d1]
        (conv => whnf); rw [d2]
        have hqt : qtM c = [c] := by unfold qtM; rw [if_neg (by omega), if_pos hin]
        (conv => whnf); refine vbuild1 sl107 [.int .u8 (c : Int)] rfl rfl (by decide) (by decide) ?_
        intro q4 H4 hq4 hs4 hb4 ha4
        have st4 := st3.skip hq4 ha4
        (conv => whnf); refine appBytes (bs := qtM c) st4 0 rfl (by rw [hqt]; exact hb4) (qt_lt hc) (by rw [hqt]; rfl) (by omega) fun a2 cap2 H5 st5 _ => ?_
        (conv => whnf); rw [w64 (x := (k : Int) + 1) (by omega) (by omega)]
        refine ⟨rfl, (k + 1, a2, cap2), ?_, ⟨by omega, ?_⟩, by simp only; omega⟩
        · show [Value.slice a2 _ cap2, Value.int .i64 ((k : Int) + 1)] = [Value.slice a2 (qL s (k + 1)).length cap2, Value.int .i64 ((k + 1 : Nat) : Int)]
          rw [hsu]; rfl
        · show St H H5 [pS tB8 5 a2 (qL s (k + 1)).length cap2 (natI (qL s (k + 1)))]
          rw [hsu]; exact st5
      by_cases hlo : c < 32
      · have d1 : decide ((c : Int) ≥ 32) = false := decide_eq_false (by omega)
        (conv => whnf); rw [d1]
        by_cases h10 : c = 10
        · subst h10
          (conv => whnf); try (refine VSeq.run ?_)
          have hqt : qtM 10 = [92, 110] := rfl
          (conv => whnf); refine appText (bs := qtM 10) st3 0 rfl (by rw [hqt]; rfl) (by omega) fun a2 cap2 H5 st5 => ?_
          (conv => whnf); rw [w64 (x := (k : Int) + 1) (by omega) (by omega)]
          refine ⟨rfl, (k + 1, a2, cap2), ?_, ⟨by omega, ?_⟩, by simp only; omega⟩
          · show [Value.slice a2 _ cap2, Value.int .i64 ((k : Int) + 1)] = [Value.slice a2 (qL s (k + 1)).length cap2, Value.int .i64 ((k + 1 : Nat) : Int)]
            rw [hsu]; rfl
          · show St H H5 [pS tB8 5 a2 (qL s (k + 1)).length cap2 (natI (qL s (k + 1)))]
            rw [hsu]; exact st5
        by_cases h13 : c = 13
        · subst h13
          (conv => whnf); try (refine VSeq.run ?_)
          (conv => whnf); try (refine VSeq.run ?_)
          have hqt : qtM 13 = [92, 114] := rfl
          (conv => whnf); refine appText (bs := qtM 13) st3 0 rfl (by rw [hqt]; rfl) (by omega) fun a2 cap2 H5 st5 => ?_
          (conv => whnf); rw [w64 (x := (k : Int) + 1) (by omega) (by omega)]
          refine ⟨rfl, (k + 1, a2, cap2), ?_, ⟨by omega, ?_⟩, by simp only; omega⟩
          · show [Value.slice a2 _ cap2, Value.int .i64 ((k : Int) + 1)] = [Value.slice a2 (qL s (k + 1)).length cap2, Value.int .i64 ((k + 1 : Nat) : Int)]
            rw [hsu]; rfl
          · show St H H5 [pS tB8 5 a2 (qL s (k + 1)).length cap2 (natI (qL s (k + 1)))]
            rw [hsu]; exact st5
        by_cases h9 : c = 9
        · subst h9
          (conv => whnf); try (refine VSeq.run ?_)
          (conv => whnf); try (refine VSeq.run ?_)
          (conv => whnf); try (refine VSeq.run ?_)
          have hqt : qtM 9 = [92, 116] := rfl
          (conv => whnf); refine appText (bs := qtM 9) st3 0 rfl (by rw [hqt]; rfl) (by omega) fun a2 cap2 H5 st5 => ?_
          (conv => whnf); rw [w64 (x := (k : Int) + 1) (by omega) (by omega)]
          refine ⟨rfl, (k + 1, a2, cap2), ?_, ⟨by omega, ?_⟩, by simp only; omega⟩
          · show [Value.slice a2 _ cap2, Value.int .i64 ((k : Int) + 1)] = [Value.slice a2 (qL s (k + 1)).length cap2, Value.int .i64 ((k + 1 : Nat) : Int)]
            rw [hsu]; rfl
          · show St H H5 [pS tB8 5 a2 (qL s (k + 1)).length cap2 (natI (qL s (k + 1)))]
            rw [hsu]; exact st5
        have b10 : ((c : Int) == 10) = false := dn 10 h10
        have b13 : ((c : Int) == 13) = false := dn 13 h13
        have b9 : ((c : Int) == 9) = false := dn 9 h9
        (conv => whnf); try (refine VSeq.run ?_)
        (conv => whnf); rw [b10]
        (conv => whnf); try (refine VSeq.run ?_)
        (conv => whnf); rw [b13]
        (conv => whnf); try (refine VSeq.run ?_)
        (conv => whnf); rw [b9]
        have hi16 : c / 16 < 16 := by omega
        have hj16 : c % 16 < 16 := by omega
        have hqt : qtM c = [92, 120, hx16 (c / 16), hx16 (c % 16)] := by unfold qtM; rw [if_neg (by omega), if_neg (by omega), if_neg h10, if_neg h13, if_neg h9]
        (conv => whnf); refine VDraw.held (fun k' => k' < H3.size ∧ ¬ slB (.slice a (qL s k).length cap) k') 9 (sq [0,1,2,3,4,5,6] (.f 7 (.f 8 (.f 9 .e)))) rfl (by kernel_rfl) ?_
        (conv => whnf); refine vshr (b := 4) (by decide) ?_
        (conv => whnf); refine vidxs strT25 (show ((c / 2 ^ 4 : Nat) : Int) = ((c / 16 : Nat) : Int) from rfl) (hx_at hi16) ?_
        (conv => whnf); refine vand (b := 15) (inU8 hc) ⟨by decide, by decide⟩ ?_
        rw [show c &&& 15 = c % 16 from Nat.and_two_pow_sub_one_eq_mod c 4]
        (conv => whnf); refine vidxs strT25 rfl (hx_at hj16) ?_
        rw [of8 (hx_lt hi16), of8 (hx_lt hj16)]
        (conv => whnf); refine vbuildL sl107 [.int .u8 (92 : Int), .int .u8 (120 : Int), .int .u8 (hx16 (c / 16) : Int), .int .u8 (hx16 (c % 16) : Int)] [[.int .u8 (92 : Int)], [.int .u8 (120 : Int)], [.int .u8 (hx16 (c / 16) : Int)], [.int .u8 (hx16 (c % 16) : Int)]] rfl (by simp) rfl (by decide) (by decide) ?_
        intro q4 H4 hq4 hs4 hb4 ha4
        have st4 := st3.skip hq4 ha4
        refine ⟨ha4.mono fun k hk => by have := hk.1; omega, ?_⟩
        (conv => whnf); refine appBytes (bs := qtM c) st4 0 rfl (by rw [hqt]; exact hb4) (qt_lt hc) (by rw [hqt]; rfl) (by omega) fun a2 cap2 H5 st5 ha5 => ?_
        refine ⟨(ha4.mono fun k hk => by have := hk.1; omega).trans (ha5.mono fun k hk => ⟨by have := hk.1; omega, hk.2⟩), ?_⟩
        (conv => whnf); rw [w64 (x := (k : Int) + 1) (by omega) (by omega)]
        refine ⟨rfl, (k + 1, a2, cap2), ?_, ⟨by omega, ?_⟩, by simp only; omega⟩
        · show [Value.slice a2 _ cap2, Value.int .i64 ((k : Int) + 1)] = [Value.slice a2 (qL s (k + 1)).length cap2, Value.int .i64 ((k + 1 : Nat) : Int)]
          rw [hsu]; rfl
        · show St H H5 [pS tB8 5 a2 (qL s (k + 1)).length cap2 (natI (qL s (k + 1)))]
          rw [hsu]; exact st5
      · have d1 : decide ((c : Int) ≥ 32) = true := decide_eq_true (by omega)
        have d2 : decide ((c : Int) ≤ 126) = false := decide_eq_false (by omega)
        have h10 : c ≠ 10 := by omega
        have h13 : c ≠ 13 := by omega
        have h9 : c ≠ 9 := by omega
        have b10 : ((c : Int) == 10) = false := dn 10 h10
        have b13 : ((c : Int) == 13) = false := dn 13 h13
        have b9 : ((c : Int) == 9) = false := dn 9 h9
        (conv => whnf); rw [d1]
        (conv => whnf); rw [d2]
        (conv => whnf); try (refine VSeq.run ?_)
        (conv => whnf); rw [b10]
        (conv => whnf); try (refine VSeq.run ?_)
        (conv => whnf); rw [b13]
        (conv => whnf); try (refine VSeq.run ?_)
        (conv => whnf); rw [b9]
        have hi16 : c / 16 < 16 := by omega
        have hj16 : c % 16 < 16 := by omega
        have hqt : qtM c = [92, 120, hx16 (c / 16), hx16 (c % 16)] := by unfold qtM; rw [if_neg (by omega), if_neg (by omega), if_neg h10, if_neg h13, if_neg h9]
        (conv => whnf); refine VDraw.held (fun k' => k' < H3.size ∧ ¬ slB (.slice a (qL s k).length cap) k') 9 (sq [0,1,2,3,4,5,6] (.f 7 (.f 8 (.f 9 .e)))) rfl (by kernel_rfl) ?_
        (conv => whnf); refine vshr (b := 4) (by decide) ?_
        (conv => whnf); refine vidxs strT25 (show ((c / 2 ^ 4 : Nat) : Int) = ((c / 16 : Nat) : Int) from rfl) (hx_at hi16) ?_
        (conv => whnf); refine vand (b := 15) (inU8 hc) ⟨by decide, by decide⟩ ?_
        rw [show c &&& 15 = c % 16 from Nat.and_two_pow_sub_one_eq_mod c 4]
        (conv => whnf); refine vidxs strT25 rfl (hx_at hj16) ?_
        rw [of8 (hx_lt hi16), of8 (hx_lt hj16)]
        (conv => whnf); refine vbuildL sl107 [.int .u8 (92 : Int), .int .u8 (120 : Int), .int .u8 (hx16 (c / 16) : Int), .int .u8 (hx16 (c % 16) : Int)] [[.int .u8 (92 : Int)], [.int .u8 (120 : Int)], [.int .u8 (hx16 (c / 16) : Int)], [.int .u8 (hx16 (c % 16) : Int)]] rfl (by simp) rfl (by decide) (by decide) ?_
        intro q4 H4 hq4 hs4 hb4 ha4
        have st4 := st3.skip hq4 ha4
        refine ⟨ha4.mono fun k hk => by have := hk.1; omega, ?_⟩
        (conv => whnf); refine appBytes (bs := qtM c) st4 0 rfl (by rw [hqt]; exact hb4) (qt_lt hc) (by rw [hqt]; rfl) (by omega) fun a2 cap2 H5 st5 ha5 => ?_
        refine ⟨(ha4.mono fun k hk => by have := hk.1; omega).trans (ha5.mono fun k hk => ⟨by have := hk.1; omega, hk.2⟩), ?_⟩
        (conv => whnf); rw [w64 (x := (k : Int) + 1) (by omega) (by omega)]
        refine ⟨rfl, (k + 1, a2, cap2), ?_, ⟨by omega, ?_⟩, by simp only; omega⟩
        · show [Value.slice a2 _ cap2, Value.int .i64 ((k : Int) + 1)] = [Value.slice a2 (qL s (k + 1)).length cap2, Value.int .i64 ((k + 1 : Nat) : Int)]
          rw [hsu]; rfl
        · show St H H5 [pS tB8 5 a2 (qL s (k + 1)).length cap2 (natI (qL s (k + 1)))]
          rw [hsu]; exact st5
    · obtain rfl : k = s.size := by omega
      (conv => whnf); refine vbuild1 sl107 [.int .u8 34] rfl rfl (by decide) (by decide) ?_
      intro q4 H4 hq4 hs4 hb4 ha4
      (conv => whnf); refine appBytes (bs := [34]) (st3.skip hq4 ha4) 0 rfl hb4 (by decide) rfl (by simp only [List.length_singleton]; omega) fun a2 cap2 H5 st5 _ => ?_
      (conv => whnf); refine vstrOut (quoteM s) st5 0 rfl rfl rfl rfl ?_
      (conv => whnf)
      exact ⟨rfl, st5.old⟩
end Go.Proofs.YtfdlhakfmbdamaaDoor
