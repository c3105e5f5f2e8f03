/- Texts as numbers; a text's bytes appended to an own slice; bytes told apart. -/
import Derived.Test.YtfdlhakfmbdamaaDoorVMapX
set_option linter.unusedVariables false
set_option linter.unusedSimpArgs false
set_option maxRecDepth 100000
namespace Go.VC
abbrev tB8 : Ty Int := tInt .u8
theorem b8_reps {S : Nat → Prop} {H : Heap} : ∀ {xs : List Int}, (∀ x ∈ xs, inK .u8 x) → tB8.reps S H (xs.map (Value.int .u8)) xs
  | [], _ => rfl
  | x :: xs, h => ⟨[.int .u8 x], xs.map (Value.int .u8), rfl, ⟨rfl, h x (by simp)⟩, b8_reps fun y hy => h y (by simp [hy])⟩
theorem reps_b8 {S : Nat → Prop} {H : Heap} : ∀ {xs : List Int} {cs : List Value}, tB8.reps S H cs xs → cs = xs.map (Value.int .u8) ∧ ∀ x ∈ xs, inK .u8 x
  | [], _, h => by cases h; exact ⟨rfl, fun x hx => by cases hx⟩
  | x :: xs, _, h => by
    obtain ⟨c, r, rfl, ⟨rfl, h1⟩, h2⟩ := h
    obtain ⟨rfl, h3⟩ := reps_b8 h2
    refine ⟨rfl, fun y hy => ?_⟩
    rcases List.mem_cons.1 hy with rfl | hy
    · exact h1
    · exact h3 y hy
/-- Numbers of bytes as integers. -/
def natI (l : List Nat) : List Int := l.map fun (n : Nat) => (n : Int)
theorem natI_len (l : List Nat) : (natI l).length = l.length := List.length_map _
theorem natI_app (l m : List Nat) : natI l ++ natI m = natI (l ++ m) := by unfold natI; rw [List.map_append]
theorem natI_u8 {l : List Nat} (h : ∀ x ∈ l, x < 256) : ∀ x ∈ natI l, inK .u8 x := fun x hx => by
  obtain ⟨n, hn, rfl⟩ := List.mem_map.1 hx
  exact inU8 (h n hn)
theorem txt_beq {u v : ByteArray} : (u.toList == v.toList) = true ↔ u = v := by
  constructor
  · intro h
    have h := eq_of_beq h
    rw [ByteArray.toList_eq, ByteArray.toList_eq] at h
    exact ByteArray.ext (Array.toList_inj.1 h)
  · rintro rfl
    exact beq_self_eq_true _
theorem txt_bne {u v : ByteArray} (h : u ≠ v) : (u.toList == v.toList) = false := by
  cases hb : (u.toList == v.toList) with
  | false => rfl
  | true => exact absurd (txt_beq.1 hb) h
theorem txt_dec {u v : ByteArray} : (u.toList == v.toList) = decide (u = v) := by
  by_cases h : u = v
  · rw [decide_eq_true h]; exact txt_beq.2 h
  · rw [decide_eq_false h]; exact txt_bne h
/-- The bytes of a text as numbers. -/
def strI (s : ByteArray) : List Int := s.data.toList.map fun b => (b.toNat : Int)
theorem strI_len (s : ByteArray) : (strI s).length = s.size := by unfold strI; rw [List.length_map]; rfl
theorem strI_append (s t : ByteArray) : strI (s ++ t) = strI s ++ strI t := by unfold strI; simp
theorem strI_u8 (s : ByteArray) : ∀ x ∈ strI s, inK .u8 x := fun x hx => by
  obtain ⟨b, -, rfl⟩ := List.mem_map.1 hx
  exact inU8 (UInt8.toNat_lt b)
theorem strI_cells (s : ByteArray) : byteCells s = (strI s).map (Value.int .u8) := by
  unfold byteCells strI
  rw [List.map_map]
  rfl
/-- A text's bytes appended to an own slice. -/
theorem appStr {P : Program} {t tx ty by_ : Nat} {z : Value} {B : Nat → Prop} {H0 H : Heap} {ps : List Pc} {e : TypeId} {a : Option Addr} {n cap : Nat} {xs : List Int} {K : Value → Heap → Prop} {s : ByteArray} (st : StB B H0 H ps) (i : Nat) (ht : SlT P t e 1 by_ z) (htx : P.underlying tx = some .string)
    (hp : ps[i]? = some (pS tB8 e a n cap xs)) (h63 : xs.length + s.size ≤ maxLen) (hby : (xs.length + s.size) * by_ ≤ 140737488355328)
    (k : ∀ a' cap' H', StB B H0 H' (ps.set i (pS tB8 e a' (xs.length + s.size) cap' (xs ++ strI s))) → K (.slice a' (xs.length + s.size) cap') H') : VEff P (Builtin.append_ #[t, tx] ty [.slice a n cap, .string s].toArray) H K := by
  obtain ⟨cs, hsl, hr⟩ := (st.at_ i hp).1
  refine vappend (m := s.size) (news := byteCells s) ht hsl (Nat.zero_le _) (fun w hw => Src.ofString w htx s) h63 hby ?_
  intro v' H' hsl' hagr hsz hfr
  have hlen : (xs ++ strI s).length = xs.length + s.size := by rw [List.length_append, strI_len]
  have hown : SlO tB8 none_ H' 0 e v' (xs ++ strI s) := ⟨_, by rw [hlen]; exact hsl', Ty.reps_append (Ty.reps_frame (hagr.mono fun k hk => hk.elim) hr) (by rw [strI_cells]; exact b8_reps (strI_u8 s))⟩
  obtain ⟨a', cap', rfl⟩ := hown.hull
  rw [hlen] at hown hfr ⊢
  refine k a' cap' H' (st.upd i hp (hagr.mono fun k hk => ⟨hk.1, fun hb => hk.2 (.inl hb)⟩) _ ⟨hown, fun k hk => hk.elim⟩ (fun k hk => ?_) (fun k hk => ?_) hsz)
  · rcases hk with hk | hk
    · rcases hfr k hk with h | h
      · exact .inl (.inl h)
      · exact .inr h
    · exact hk.elim
  · rcases hk with hk | hk
    · exact (hown.lt hk).2
    · exact hk.elim
theorem vstrOut {P : Program} {s d e cap n : Nat} {a : Option Addr} {S B : Nat → Prop} {H0 H : Heap} {ps : List Pc} {K : Value → Heap → Prop} (bs : List Nat) (st : StB B H0 H ps) (i : Nat) (hp : ps[i]? = some (pN (tInt .u8) S e a n cap (bs.map fun (x : Nat) => (x : Int))))
    (hs : P.underlying s = some (.slice e)) (he : P.underlying e = some (.int .u8)) (hd : P.underlying d = some .string) (k : K (.string ⟨(bs.map UInt8.ofNat).toArray⟩) H) : VEff P (convert s d (.slice a n cap)) H K := by
  have h := st.view i hp
  have hn := st.len i hp
  rw [List.length_map] at hn
  cases bs with
  | nil =>
    cases a with
    | none => exact vb2s0 hs he hd k
    | some ad =>
      have h' := st.at_ i hp
      obtain ⟨cs, ⟨h0, h2⟩, h3⟩ := h'.1
      rcases h2 with ⟨h2, -⟩ | ⟨b, c, l, h2, h4, h5, h6, h7, h8, h9⟩
      · cases h2
      · injection h2 with g1 g2 g3
        injection g1 with g1
        subst g1
        exact vb2s [] hs he hd (fun j x hx => by simp at hx) hn k
  | cons x xs =>
    obtain ⟨b, rfl⟩ := st.adr i hp (by simp)
    refine vb2s (x :: xs) hs he hd (fun j y hy => ?_) hn k
    obtain ⟨b', o', c', e, -, hc, hr⟩ := h.get (i := j) (x := (y : Int)) (by rw [List.getElem?_map, hy]; rfl)
    injection e with e
    injection e with e1 e2 e3
    subst e1; subst e2
    obtain ⟨rfl, -⟩ := hr
    have := hc.one
    rw [show (tInt .u8).size = 1 from rfl, Nat.mul_one] at this
    exact this
end Go.VC
