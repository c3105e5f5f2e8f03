/- The document's file system: lay, New: the walks. -/
import Derived.Test.YtfdlhakfmbdamaaDoorPFd1
set_option linter.unusedVariables false
set_option linter.unusedSimpArgs false
set_option maxRecDepth 100000
namespace Go.VC
section
variable {α : Type} {T : Ty α} {S S' : Nat → Prop} {e : TypeId} {a : Option Addr} {n cap : Nat} {xs ys : List α} {B : Nat → Prop} {H0 H : Heap} {ps : List Pc}
theorem vcutT {P : Program} {t by_ l : Nat} {z : Value} {ki : IntKind} {i : Int} {K : Value → Prop} (ht : SlT P t e T.size by_ z) (h : SlD T S' H a cap xs) (hi : i = (l : Int)) (hl : l ≤ xs.length)
    (k : SlD T S' H a cap (xs.take l) → K (.slice a (xs.take l).length cap)) : VDet P (Instr.sliceAt t (.slice a n cap) none (some (.int ki i)) none) S H K := by
  subst hi
  have hle := h.le
  refine vcutH ht (by omega) (by omega) ?_
  have := k (h.take l)
  rw [List.length_take, Nat.min_eq_left hl] at this
  rw [Int.toNat_natCast]
  exact this
theorem appD2 {P : Program} {t ty by_ m cap2 : Nat} {z : Value} {a2 : Option Addr} {K : Value → Heap → Prop} (hF : T.Free) (h1 : T.Ones) (st : StB B H0 H ps) (i : Nat) (ht : SlT P t e T.size by_ z) (hp : ps[i]? = some (pS T e a n cap xs)) (hm : m = ys.length)
    (hy : SlD T S H a2 cap2 ys) (h63 : xs.length + ys.length ≤ 34359738368) (hby : by_ ≤ 1024)
    (k : ∀ a' cap' H', StB B H0 H' (ps.set i (pS T e a' (xs ++ ys).length cap' (xs ++ ys))) → Agr (fun k => k < H.size ∧ ¬ slB (.slice a n cap) k) H H' → K (.slice a' (xs ++ ys).length cap') H') :
    VEff P (Builtin.append_ #[t, t] ty [.slice a n cap, .slice a2 m cap2].toArray) H K := by
  subst hm
  refine appD hF h1 st i ht hp hy h63 hby fun a' c' H' st' ag => ?_
  have := k a' c' H'
  rw [List.length_append] at this
  exact this st' ag
theorem appO2 {P : Program} {t ty q o m cap2 by_ : Nat} {z : Value} {ds : List Value} {K : Value → Heap → Prop} (st : StB B H0 H ps) (i : Nat) (ht : SlT P t e T.size by_ z) (hp : ps[i]? = some (pS T e a n cap xs))
    (hd : Cells H q o ds) (hy : T.reps none_ H ds ys) (hm : m = ys.length) (h1 : ∀ u ∈ ds, u.oneCell' = true) (h63 : xs.length + ys.length ≤ 34359738368) (hby : by_ ≤ 1024)
    (k : ∀ a' cap' H', StB B H0 H' (ps.set i (pS T e a' (xs ++ ys).length cap' (xs ++ ys))) → Agr (fun k => k < H.size ∧ ¬ slB (.slice a n cap) k) H H' → K (.slice a' (xs ++ ys).length cap') H') :
    VEff P (Builtin.append_ #[t, t] ty [.slice a n cap, .slice (some ⟨q, o, none⟩) m cap2].toArray) H K := by
  refine appO st i ht hp hd hy hm h1 h63 hby fun a' c' H' st' ag => ?_
  have := k a' c' H'
  rw [List.length_append] at this
  exact this st' ag
end
theorem set_same {α : Type} {ps : List α} {i : Nat} {p : α} (h : ps[i]? = some p) : ps.set i p = ps := by
  obtain ⟨h1, rfl⟩ := List.getElem?_eq_some_iff.1 h
  exact List.set_getElem_self h1
end Go.VC
namespace Go.Proofs.YtfdlhakfmbdamaaDoor
open Go.VC
def layF (x : Fs) (n d : ByteArray) : Fs := { x with files := layM x.files n d }
theorem lay_len (l : List (ByteArray × ByteArray)) (n d : ByteArray) : (layM l n d).length ≤ l.length + 1 := by
  cases h : thereM l n with
  | true => rw [lay_there h, List.length_set]; omega
  | false =>
    rw [lay_new h]
    simp
    have := pos_le l n
    omega
set_option maxHeartbeats 8000000 in
theorem lay_p {B : Nat → Prop} {H0 H : Heap} {ps : List Pc} {j sd fc bc : Nat} {fa ba : Option Addr} {x : Fs} {name data : ByteArray} (st : StB B H0 H ps) (sy : DocAt ps j sd fa fc ba bc x) (hlen : x.files.length ≤ 65536) (hn : name.size ≤ maxLen) (hd : data.size ≤ maxLen) :
    FnOk Tryd.prog 30 #[.pointer (some ⟨sd, 0, none⟩), .string name, .string data] H fun _ H' => ∃ fa' fc', StB B H0 H' ((ps.set j (pB 55 sd (docC fa' fc' ba bc (layF x name data)))).set (j + 1) (pS tFile 65 fa' (layF x name data).files.length fc' (layF x name data).files)) := by
  have hpl := pos_le x.files name
  refine FnOk.of_vc Tryd.func30 rfl (Tryd.call30 _) ?_
  (conv => whnf); refine pures (find_p (st.blk j sy.p0) rfl (st.view (j + 1) sy.p1) (fun k hk => hk)) fun H1 ha1 => ?_
  have st1 := st.call ha1
  have hb1 := st1.blk j sy.p0
  have hl0 : VC.cell H1 sd (0 + 0) = some (.slice fa x.files.length fc) := by rw [hb1.cell]; rfl
  cases hth : thereM x.files name with
  | true =>
    obtain ⟨p, hp, hpn⟩ : ∃ p, x.files[posM x.files name]? = some p ∧ p.1 = name := by
      unfold thereM at hth
      split at hth
      · rename_i p hp
        exact ⟨p, hp, of_decide_eq_true hth⟩
      · cases hth
    have hpos := (List.getElem?_eq_some_iff.1 hp).1
    obtain ⟨b, cap, l, cs, e, -⟩ := (st1.at_ (j + 1) sy.p1).1.place hpos
    injection e with e1 e2 e3
    subst e1; subst e3
    (conv => whnf); refine VC.fa fl55_0 ?_
    (conv => whnf); refine ld1 ct52 hl0 trivial ?_
    (conv => whnf); refine ixE sl52 st1 (j + 1) sy.p1 hpos rfl ?_
    (conv => whnf); refine VC.fa fl65_1 ?_
    (conv => whnf); refine st1E (T := tFile) (x := p) (x' := (name, data)) st1 (j + 1) ct9 sy.p1 hp (by decide) rfl (fun H' c hc => by
      obtain ⟨rfl, h1, h2⟩ := file_rep hc
      rw [← hpn]
      exact ⟨[.string p.1], [.string data], rfl, ⟨rfl, h1⟩, ⟨rfl, hd⟩⟩) fun H2 st2 ha2 => ?_
    (conv => whnf)
    have hfl : layM x.files name data = x.files.set (posM x.files name) (name, data) := lay_there hth
    have hll : (layM x.files name data).length = x.files.length := by rw [hfl, List.length_set]
    refine ⟨some ⟨b, 0, none⟩, fc, ?_⟩
    have ec : docC (some ⟨b, 0, none⟩) fc ba bc (layF x name data) = docC (some ⟨b, 0, none⟩) fc ba bc x := by unfold docC layF; rw [hll]
    rw [ec, set_same sy.p0]
    show StB B H0 H2 (ps.set (j + 1) (pS tFile 65 (some ⟨b, 0, none⟩) (layM x.files name data).length fc (layM x.files name data)))
    rw [hll, hfl]
    exact st2
  | false =>
    have st2 := st1.nils tFile 65
    have hv1 := st2.view (j + 1) (getL sy.p1)
    (conv => whnf); refine VC.fa fl55_0 ?_
    (conv => whnf); refine ld1 ct52 hl0 trivial ?_
    (conv => whnf); refine vcutT sl52 hv1 rfl hpl fun hvT => ?_
    (conv => whnf); refine appD2 file_free file_ones st2 ps.length sl52 (getR _ _ _) rfl hvT (by simp; omega) (by decide) fun a3 c3 H3 st3 ag3 => ?_
    rw [setR_, List.nil_append] at st3
    rw [List.nil_append]
    (conv => whnf); refine vbuildS Tryd.underlying65 rfl _ rfl (fileL (name, data)) rfl ?_
    (conv => whnf); refine vbuild1 sl52 (fileL (name, data)) rfl rfl (by decide) (by decide) ?_
    intro q4 H4 hq4 hs4 hb4 ha4
    have st4 := st3.skip hq4 ha4
    (conv => whnf); refine appO2 (ys := [(name, data)]) st4 ps.length sl52 (getR _ _ _) (hb4.cells fun j v hv => by rw [Nat.zero_add]; exact hv) (Ty.reps_one ⟨[.string name], [.string data], rfl, ⟨rfl, hn⟩, ⟨rfl, hd⟩⟩) rfl (by intro u hu; simp [fileL] at hu; rcases hu with rfl | rfl <;> rfl) (by simp; omega) (by decide) fun a5 c5 H5 st5 ag5 => ?_
    rw [setR_] at st5
    have hb5 := st5.blk j (getL sy.p0)
    have hl5 : VC.cell H5 sd (0 + 0) = some (.slice fa x.files.length fc) := by rw [hb5.cell]; rfl
    (conv => whnf); refine VC.fa fl55_0 ?_
    (conv => whnf); refine ld1 ct52 hl5 trivial ?_
    (conv => whnf); refine vcutL sl52 (st5.view (j + 1) (getL sy.p1)) rfl hpl fun a6 hvD => ?_
    (conv => whnf); refine appD2 file_free file_ones st5 ps.length sl52 (getR _ _ _) rfl hvD (by simp; omega) (by decide) fun a7 c7 H7 st7 ag7 => ?_
    rw [setR_, ← lay_new hth] at st7
    rw [← lay_new hth]
    (conv => whnf); refine VC.fa fl55_0 ?_
    (conv => whnf); refine st1B st7 j ct52 (getL sy.p0) (by simp [docC]) rfl fun H8 st8 => ?_
    rw [setL_ sy.p0] at st8
    (conv => whnf)
    refine ⟨a7, c7, ?_⟩
    have hj : (ps.set j (pB 55 sd (docC a7 c7 ba bc (layF x name data))))[j + 1]? = some (pS tFile 65 fa x.files.length fc x.files) := getN sy.p1 (by omega)
    have st9 := StB.perm (qs := pS tFile 65 fa x.files.length fc x.files :: (ps.set j (pB 55 sd (docC a7 c7 ba bc (layF x name data)))).set (j + 1) (pS tFile 65 a7 (layM x.files name data).length c7 (layM x.files name data))) st8 (replace_perm hj)
    exact st9.sub (List.sublist_cons_self _ _)
end Go.Proofs.YtfdlhakfmbdamaaDoor
