/- The document's Text, With, Build; the law NfaLarge: the walks. -/
import Derived.Test.YtlnmhfhdjnenoaaPDBl
import Derived.Test.YtlnmhfhdjnenoaaPSpk04
import Derived.Test.YtlnmhfhdjnenoaaPNfa7
set_option linter.unusedVariables false
set_option linter.unusedSimpArgs false
set_option maxRecDepth 100000
namespace Go.Proofs.Ytlnmhfhdjnenoaa
open Go.VC
abbrev tRe : TypeId := 39
def clsN (c : Nat) : RnM := ⟨1, oneS c, 0, 0, 0, 0⟩
def catN (x y : Nat) : RnM := ⟨2, 0#256, (x : Int), (y : Int), 0, 0⟩
def epsN : RnM := ⟨0, 0#256, 0, 0, 0, 0⟩
/-- The list of a text's tree. -/
def txN (l : List Nat) : List RnM := l.foldl (fun ns c => match ns with | [] => [clsN c] | d :: t => (d :: t) ++ [clsN c] ++ [catN ((d :: t).length - 1) (d :: t).length]) []
theorem txN_snoc (l : List Nat) (c : Nat) : txN (l ++ [c]) = match txN l with | [] => [clsN c] | d :: t => (d :: t) ++ [clsN c] ++ [catN ((d :: t).length - 1) (d :: t).length] := by
  unfold txN
  rw [List.foldl_append]
  rfl
theorem snoc_ind {P : List Nat → Prop} (h0 : P []) (h1 : ∀ l c, P l → P (l ++ [c])) : ∀ l, P l := by
  have key : ∀ n (l : List Nat), l.length = n → P l := by
    intro n
    induction n with
    | zero => intro l hl; rw [List.eq_nil_of_length_eq_zero hl]; exact h0
    | succ n ih =>
      intro l hl
      have hne : l ≠ [] := by intro e; subst e; cases hl
      have e := List.dropLast_concat_getLast hne
      rw [← e]
      exact h1 _ _ (ih _ (by rw [List.length_dropLast]; omega))
  exact fun l => key _ l rfl
theorem txN_len : ∀ l, (txN l).length = 2 * l.length - 1 := by
  refine snoc_ind rfl fun l c ih => ?_
  rw [txN_snoc]
  cases h : txN l with
  | nil =>
    rw [h] at ih
    have : l.length = 0 := by simp only [List.length_nil] at ih; omega
    simp [this]
  | cons d t =>
    rw [h] at ih
    simp only [List.length_append, List.length_cons, List.length_nil] at ih ⊢
    omega
theorem txN_next {l : List Nat} (hl : l ≠ []) (c : Nat) : txN (l ++ [c]) = txN l ++ [clsN c] ++ [catN (2 * l.length - 2) (2 * l.length - 1)] := by
  have h1 := txN_len l
  have h2 : 0 < l.length := List.length_pos_iff.2 hl
  rw [txN_snoc]
  cases h : txN l with
  | nil => rw [h] at h1; simp only [List.length_nil] at h1; omega
  | cons d t =>
    rw [h] at h1
    rw [show 2 * l.length - 2 = (d :: t).length - 1 by omega, show 2 * l.length - 1 = (d :: t).length by omega]
theorem txN_tree : ∀ l, l ≠ [] → TreeAt (txN l) (textR l) (2 * l.length - 2) := by
  refine snoc_ind (fun h => absurd rfl h) fun l c ih _ => ?_
  by_cases hl : l = []
  · subst hl
    exact ⟨clsN c, rfl, rfl, rfl⟩
  · have h2 : 0 < l.length := List.length_pos_iff.2 hl
    have hlen := txN_len l
    rw [txN_next hl, textR_snoc hl]
    refine ⟨catN (2 * l.length - 2) (2 * l.length - 1), 2 * l.length - 2, 2 * l.length - 1, ?_, rfl, rfl, rfl, ((ih hl).more).more, ?_⟩
    · rw [List.getElem?_append_right (by simp only [List.length_append, List.length_cons, List.length_nil]; omega)]
      rw [show 2 * (l ++ [c]).length - 2 - (txN l ++ [clsN c]).length = 0 by simp only [List.length_append, List.length_cons, List.length_nil]; omega]
      rfl
    · refine ⟨clsN c, getx ?_, rfl, rfl⟩
      rw [List.getElem?_append_right (by omega), show 2 * l.length - 1 - (txN l).length = 0 by omega]
      rfl
def tdN (l : List Nat) : List RnM := match l with | [] => [epsN] | _ => txN l
theorem tdN_tree (l : List Nat) : TreeAt (tdN l) (textR l) (2 * l.length - 2) := by
  cases l with
  | nil => exact ⟨epsN, rfl, rfl⟩
  | cons b l => exact txN_tree (b :: l) (by simp)
theorem tdN_len (l : List Nat) : (tdN l).length ≤ 2 * l.length + 1 := by
  cases l with
  | nil => exact Nat.le_refl _
  | cons b l => show (txN (b :: l)).length ≤ _; rw [txN_len]; omega
theorem rn_ok {x y z : Int} {s : BitVec 256} (hx : 0 ≤ x ∧ x < 4294967296) (hy : 0 ≤ y ∧ y < 4294967296) (hz : 0 ≤ z ∧ z < 4294967296) : (RnM.mk x s y z 0 0).Ok := by
  have hk : ∀ w : Int, 0 ≤ w ∧ w < 4294967296 → inK .i64 w := fun w hw => by
    obtain ⟨n, rfl⟩ := Int.eq_ofNat_of_zero_le hw.1
    exact inI64 (by omega)
  exact ⟨hk _ hx, hk _ hy, hk _ hz, hk 0 (by decide), hk 0 (by decide)⟩
theorem oneS_bit {c i : Nat} (hc : c < 256) : (oneS c).getLsbD i = decide (c = i) := by
  have e : oneS c = 0#256 ||| BitVec.twoPow 256 c := rfl
  rw [e]
  simp [BitVec.getLsbD_or, BitVec.getLsbD_twoPow, hc]
  try rw [← decide_eq_decide]
theorem bits_one {c : Nat} (hc : c < 256) : (List.replicate 256 (Value.bool false)).set c (.bool true) = bitsL (oneS c) := by
  apply List.ext_getElem?
  intro i
  by_cases hi : i < 256
  · rw [bitsL_get _ hi, List.getElem?_set, List.length_replicate, oneS_bit hc]
    by_cases hic : c = i
    · subst hic; simp [hc]
    · rw [if_neg hic, List.getElem?_replicate, if_pos hi, decide_eq_false hic]
  · rw [List.getElem?_eq_none (by simp; omega), List.getElem?_eq_none (by rw [bitsL_len]; omega)]
/-! ### put -/
section
variable {B : Nat → Prop} {H0 H : Heap} {rest : List Pc} {bb : Nat}
theorem put_v {K : Value → Heap → Prop} {a : Option Addr} {c x y : Nat} {ns : List RnM} {root : Int} (st : StB B H0 H (pB tRe bb (reL (.slice a ns.length c) root) :: pS tRn 77 a ns.length c ns :: rest)) (hx : x < 4294967296) (hy : y < 4294967296) (hl : ns.length + 1 ≤ 4194304)
    (k : ∀ a' c' H', StB B H0 H' (pB tRe bb (reL (.slice a' (ns ++ [catN x y]).length c') root) :: pS tRn 77 a' (ns ++ [catN x y]).length c' (ns ++ [catN x y]) :: rest) → K (.int .i64 (ns.length : Int)) H') :
    VCall Try.prog 26 #[.pointer (some ⟨bb, 0, none⟩), .int .i64 2, .int .i64 (x : Int), .int .i64 (y : Int)] H K := by
  refine VCall.mk (R := fun r H' => r = .int .i64 (ns.length : Int) ∧ ∃ a' c', StB B H0 H' (pB tRe bb (reL (.slice a' (ns ++ [catN x y]).length c') root) :: pS tRn 77 a' (ns ++ [catN x y]).length c' (ns ++ [catN x y]) :: rest)) ?_ fun r H' ⟨h1, a', c', h2⟩ => by rw [h1]; exact k a' c' H' h2
  refine FnOk.of_vc Try.func26 rfl (Try.call26 _) ?_
  (conv => whnf); refine fa fl39_0 ?_
  (conv => whnf); refine ld1 (v := .slice a ns.length c) ct37 (by rw [(st.blk 0 rfl).cell]; rfl) trivial ?_
  (conv => whnf); refine rn_build2 2 x y ?_
  (conv => whnf); refine vbuild1 sl37 (rnL (catN x y)) rfl (rnL_len _) (by decide) (by decide) ?_
  intro z H1 hz hs1 hb1 ha1
  have st1 := st.skip hz ha1
  (conv => whnf); refine appO (ys := [catN x y]) st1 1 sl37 rfl (hb1.cells (o := 0) (cs := rnL (catN x y)) fun j v hv => by rw [Nat.zero_add]; exact hv) (Ty.reps_one ⟨rfl, rn_ok (by decide) (by omega) (by omega)⟩) rfl (fun u hu => List.all_eq_true.1 (rn_ones _) u hu) (by simpa using hl) (by decide) fun a9 c9 H9 st9 _ => ?_
  have el : ns.length + [catN x y].length = (ns ++ [catN x y]).length := by simp
  rw [el] at st9 ⊢
  (conv => whnf); refine fa fl39_0 ?_
  (conv => whnf); refine st1B st9 0 ct37 rfl (show 0 < 2 by decide) rfl fun H10 st10 => ?_
  (conv => whnf); refine fa fl39_0 ?_
  (conv => whnf); refine ld1 (v := .slice a9 (ns ++ [catN x y]).length c9) ct37 (by rw [(st10.blk 0 rfl).cell]; rfl) trivial ?_
  have w1 : IntKind.wrap .i64 (((ns ++ [catN x y]).length : Int) - 1) = (ns.length : Int) := by
    rw [List.length_append, List.length_singleton, w64 (by omega) (by omega)]; omega
  (conv => whnf); rw [w1]
  (conv => whnf)
  exact ⟨rfl, a9, c9, st10⟩
end
theorem re_z : (Try.prog.info? 39).bind (·.zero) = some (.agg #[.slice none 0 0, .int .i64 0]) := rfl
abbrev reZ : List Value := [.slice none 0 0, .int .i64 0]
set_option maxHeartbeats 8000000 in
theorem dtext_c (s : ByteArray) (hs : s.size ≤ 1048576) (H : Heap) : FnOk Try.prog 11 #[.string s] H fun v H' => Agr (Old H) H H' ∧ ∃ na nc, v = .agg (reL (.slice na (tdN (byN s)).length nc) ((2 * (byN s).length - 2 : Nat) : Int)).toArray ∧ SlO tRn none_ H' H.size 77 (.slice na (tdN (byN s)).length nc) (tdN (byN s)) := by
  have hbl := byN_len s
  refine FnOk.of_vc Try.func11 rfl (Try.call11 _) ?_
  (conv => whnf); refine valloc _ reZ re_z rfl ?_
  intro r H1 hr hs1 hb1 ha1
  have st1 := (St.nil H).box hr hs1 hb1 ha1
  (conv => whnf); refine valloc _ reZ re_z rfl ?_
  intro q H2 hq hs2 hb2 ha2
  have st2 : St H H2 (pB tRe r reZ :: pB tRe q reZ :: pS tRn 77 none 0 0 [] :: []) := (st1.box hq hs2 hb2 ha2).nils tRn 77
  by_cases he : s.size = 0
  · have hnil : byN s = [] := List.eq_nil_of_length_eq_zero (by omega)
    have hse : s = ⟨#[]⟩ := text_inj (by
      have : s.data.toList = [] := List.eq_nil_of_length_eq_zero (by rw [Array.length_toList]; exact he)
      rw [this])
    have d0 : (s.toList == (⟨#[]⟩ : ByteArray).toList) = true := by rw [hse]; simp
    (conv => whnf); rw [d0]
    (conv => whnf); refine fa fl39_0 ?_
    (conv => whnf); refine ld1 (v := .slice none 0 0) ct37 (by rw [(st2.blk 1 rfl).cell]; rfl) trivial ?_
    (conv => whnf); refine rn_build0 0 ?_
    (conv => whnf); refine vbuild1 sl37 (rnL epsN) rfl (rnL_len _) (by decide) (by decide) ?_
    intro z H3 hz hs3 hb3 ha3
    have st3 := st2.skip hz ha3
    (conv => whnf); refine appO (ys := [epsN]) st3 2 sl37 rfl (hb3.cells (o := 0) (cs := rnL epsN) fun j v hv => by rw [Nat.zero_add]; exact hv) (Ty.reps_one ⟨rfl, rn_ok (by decide) (by decide) (by decide)⟩) rfl (fun u hu => List.all_eq_true.1 (rn_ones _) u hu) (by decide) (by decide) fun a9 c9 H9 st9 _ => ?_
    (conv => whnf); refine fa fl39_0 ?_
    (conv => whnf); refine st1B st9 1 ct37 rfl (show 0 < 2 by decide) rfl fun H10 st10 => ?_
    replace st10 : St H H10 [pB tRe r reZ, pB tRe q (reL (.slice a9 1 c9) 0), pS tRn 77 a9 1 c9 [epsN]] := st10
    (conv => whnf); refine ldN (cs := reL (.slice a9 1 c9) 0) ag39 ((st10.blk 1 rfl).cells fun j v hv => by rw [Nat.zero_add]; exact hv) trivial ?_
    (conv => whnf); refine stNB (cs := reL (.slice a9 1 c9) 0) st10 0 rfl rfl (Nat.le_refl _) rfl fun H11 st11 => ?_
    rw [splice_all (show (reL (.slice a9 1 c9) 0).length = reZ.length from rfl)] at st11
    (conv => whnf); refine ldN (cs := reL (.slice a9 1 c9) 0) ag39 ((st11.blk 0 rfl).cells fun j v hv => by rw [Nat.zero_add]; exact hv) trivial ?_
    (conv => whnf)
    rw [hnil]
    exact ⟨st11.old, a9, c9, rfl, St.own st11 2 rfl⟩
  · have d0 : (s.toList == (⟨#[]⟩ : ByteArray).toList) = false := by
      cases h : (s.toList == (⟨#[]⟩ : ByteArray).toList) with
      | false => rfl
      | true =>
        rw [text_eq] at h
        rw [h] at he
        exact absurd rfl he
    (conv => whnf); rw [d0]
    (conv => whnf)
    refine VLoop.mk [4] (fun i : Nat => [.int .i64 (i : Int)]) (fun i H3 => i ≤ s.size ∧ ∃ a' c', St H H3 [pB tRe r reZ, pB tRe q (reL (.slice a' (txN ((byN s).take i)).length c') ((2 * i - 2 : Nat) : Int)), pS tRn 77 a' (txN ((byN s).take i)).length c' (txN ((byN s).take i))]) (fun i _ => s.size - i) ?_ ?_
    · (conv => whnf)
      exact ⟨0, rfl, Nat.zero_le _, none, 0, st2⟩
    · rintro i H3 junk ⟨hi, a', c', st3⟩
      (conv => whnf); refine VIte.mk (fun hz => ?_) (fun hz => ?_) <;> simp only [decide_eq_true_eq, decide_eq_false_iff_not] at hz
      · obtain ⟨b, hb⟩ := getB (s := s) (k := i) (by omega)
        have hb256 : b.toNat < 256 := UInt8.toNat_lt b
        have htl : ((byN s).take i).length = i := by rw [List.length_take]; omega
        have hlen := txN_len ((byN s).take i)
        rw [htl] at hlen
        have htk := take_succ_snoc (byN_get hb)
        obtain ⟨N, hN⟩ : ∃ N, N = txN ((byN s).take i) := ⟨_, rfl⟩
        rw [← hN] at st3 hlen
        (conv => whnf); refine valloc _ (List.replicate 256 (.bool false)) rfl rfl ?_
        intro x H4 hx hs4 hb4 ha4
        have st4 := st3.box hx hs4 hb4 ha4
        (conv => whnf); refine vidxs Try.underlying9 rfl hb ?_
        (conv => whnf); rw [w64 (x := (b.toNat : Int)) (by omega) (by omega)]
        (conv => whnf); refine ixa ar75 (by omega) (by omega) ?_
        rw [Nat.zero_add, Nat.mul_one, Int.toNat_natCast]
        (conv => whnf); refine st1B st4 3 ct4 rfl (by rw [List.length_replicate]; exact hb256) rfl fun H5 st5 => ?_
        rw [bits_one hb256] at st5
        replace st5 : St H H5 [pB tRe r reZ, pB tRe q (reL (.slice a' N.length c') ((2 * i - 2 : Nat) : Int)), pS tRn 77 a' N.length c' N, pB 75 x (bitsL (oneS b.toNat))] := st5
        (conv => whnf); refine fa fl39_0 ?_
        (conv => whnf); refine ld1 (v := .slice a' N.length c') ct37 (by rw [(st5.blk 1 rfl).cell]; rfl) trivial ?_
        (conv => whnf); refine ldN (cs := bitsL (oneS b.toNat)) (by rw [bitsL_len]; exact ag75) ((st5.blk 3 rfl).cells fun j v hv => by rw [Nat.zero_add]; exact hv) trivial ?_
        (conv => whnf); refine rn_build1 1 (oneS b.toNat) ?_
        (conv => whnf); refine vbuild1 sl37 (rnL (clsN b.toNat)) rfl (rnL_len _) (by decide) (by decide) ?_
        intro z H6 hz6 hs6 hb6 ha6
        have st6 := st5.skip hz6 ha6
        (conv => whnf); refine appO (ys := [clsN b.toNat]) st6 2 sl37 rfl (hb6.cells (o := 0) (cs := rnL (clsN b.toNat)) fun j v hv => by rw [Nat.zero_add]; exact hv) (Ty.reps_one ⟨rfl, rn_ok (by decide) (by decide) (by decide)⟩) rfl (fun u hu => List.all_eq_true.1 (rn_ones _) u hu) (by simp only [List.length_cons, List.length_nil]; omega) (by decide) fun a9 c9 H9 st9 _ => ?_
        have el : N.length + [clsN b.toNat].length = (N ++ [clsN b.toNat]).length := by simp
        have el2 : (N ++ [clsN b.toNat]).length = N.length + 1 := by simp
        rw [el] at st9 ⊢
        (conv => whnf); refine fa fl39_0 ?_
        (conv => whnf); refine st1B st9 1 ct37 rfl (show 0 < 2 by decide) rfl fun H10 st10 => ?_
        have st11 : St H H10 (pB tRe q (reL (.slice a9 (N ++ [clsN b.toNat]).length c9) ((2 * i - 2 : Nat) : Int)) :: pS tRn 77 a9 (N ++ [clsN b.toNat]).length c9 (N ++ [clsN b.toNat]) :: [pB tRe r reZ]) := st10.pick [1, 2, 0] (by decide)
        (conv => whnf); refine VSeq.run ?_
        rcases Nat.eq_zero_or_pos i with hi0 | hi0
        · have hN1 : N ++ [clsN b.toNat] = txN ((byN s).take (i + 1)) := by
            rw [htk, txN_snoc, ← hN]
            have : N = [] := List.eq_nil_of_length_eq_zero (by omega)
            rw [this]; rfl
          have d1 : decide ((0 : Int) < (i : Int)) = false := decide_eq_false (by omega)
          (conv => whnf); rw [d1]
          (conv => whnf); refine fa fl39_0 ?_
          (conv => whnf); refine ld1 (v := .slice a9 (N ++ [clsN b.toNat]).length c9) ct37 (by rw [(st11.blk 0 rfl).cell]; rfl) trivial ?_
          have w1 : IntKind.wrap .i64 (((N ++ [clsN b.toNat]).length : Int) - 1) = ((2 * (i + 1) - 2 : Nat) : Int) := by
            rw [el2, w64 (by omega) (by omega)]; omega
          (conv => whnf); rw [w1]
          (conv => whnf); refine fa fl39_1 ?_
          (conv => whnf); refine st1B st11 0 ct3 rfl (show 1 < 2 by decide) rfl fun H12 st12 => ?_
          rw [hN1] at st12
          (conv => whnf); rw [w64 (x := (i : Int) + 1) (by omega) (by omega)]
          exact ⟨rfl, i + 1, by simp, ⟨by omega, a9, c9, st12.pick [2, 0, 1] (by decide)⟩, by omega⟩
        · have hne : (byN s).take i ≠ [] := fun e => by rw [e] at htl; simp only [List.length_nil] at htl; omega
          have hN1 : N ++ [clsN b.toNat] ++ [catN (2 * i - 2) N.length] = txN ((byN s).take (i + 1)) := by
            rw [htk, txN_next hne, ← hN, htl, hlen]
          have d1 : decide ((0 : Int) < (i : Int)) = true := decide_eq_true (by omega)
          (conv => whnf); rw [d1]
          (conv => whnf); refine fa fl39_1 ?_
          (conv => whnf); refine ld1 (v := .int .i64 ((2 * i - 2 : Nat) : Int)) ct3 (by rw [(st11.blk 0 rfl).cell]; rfl) trivial ?_
          (conv => whnf); refine fa fl39_0 ?_
          (conv => whnf); refine ld1 (v := .slice a9 (N ++ [clsN b.toNat]).length c9) ct37 (by rw [(st11.blk 0 rfl).cell]; rfl) trivial ?_
          have w1 : IntKind.wrap .i64 (((N ++ [clsN b.toNat]).length : Int) - 1) = (N.length : Int) := by
            rw [el2, w64 (by omega) (by omega)]; omega
          (conv => whnf); rw [w1]
          (conv => whnf); refine put_v st11 (by omega) (by omega) (by rw [el2]; omega) fun a12 c12 H12 st12 => ?_
          rw [hN1] at st12
          have hl12 := txN_len ((byN s).take (i + 1))
          rw [List.length_take, show min (i + 1) (byN s).length = i + 1 by omega] at hl12
          (conv => whnf); refine fa fl39_0 ?_
          (conv => whnf); refine ld1 (v := .slice a12 (txN ((byN s).take (i + 1))).length c12) ct37 (by rw [(st12.blk 0 rfl).cell]; rfl) trivial ?_
          have w2 : IntKind.wrap .i64 (((txN ((byN s).take (i + 1))).length : Int) - 1) = ((2 * (i + 1) - 2 : Nat) : Int) := by
            rw [hl12, w64 (by omega) (by omega)]; omega
          (conv => whnf); rw [w2]
          (conv => whnf); refine fa fl39_1 ?_
          (conv => whnf); refine st1B st12 0 ct3 rfl (show 1 < 2 by decide) rfl fun H13 st13 => ?_
          (conv => whnf); rw [w64 (x := (i : Int) + 1) (by omega) (by omega)]
          exact ⟨rfl, i + 1, by simp, ⟨by omega, a12, c12, st13.pick [2, 0, 1] (by decide)⟩, by omega⟩
      · obtain rfl : i = s.size := by omega
        rw [List.take_of_length_le (by rw [hbl]; exact Nat.le_refl _)] at st3
        have htd : tdN (byN s) = txN (byN s) := by
          cases h : byN s with
          | nil => rw [h] at hbl; simp only [List.length_nil] at hbl; omega
          | cons b l => rfl
        rw [htd]
        rw [← hbl] at st3
        (conv => whnf); refine ldN (cs := reL (.slice a' (txN (byN s)).length c') ((2 * (byN s).length - 2 : Nat) : Int)) ag39 ((st3.blk 1 rfl).cells fun j v hv => by rw [Nat.zero_add]; exact hv) trivial ?_
        (conv => whnf); refine stNB (cs := reL (.slice a' (txN (byN s)).length c') ((2 * (byN s).length - 2 : Nat) : Int)) st3 0 rfl rfl (Nat.le_refl _) rfl fun H11 st11 => ?_
        rw [splice_all (show (reL (.slice a' (txN (byN s)).length c') ((2 * (byN s).length - 2 : Nat) : Int)).length = reZ.length from rfl)] at st11
        (conv => whnf); refine ldN (cs := reL (.slice a' (txN (byN s)).length c') ((2 * (byN s).length - 2 : Nat) : Int)) ag39 ((st11.blk 0 rfl).cells fun j v hv => by rw [Nat.zero_add]; exact hv) trivial ?_
        (conv => whnf)
        exact ⟨st11.old, a', c', rfl, St.own st11 2 rfl⟩
end Go.Proofs.Ytlnmhfhdjnenoaa
