/- System.List: the walk. -/
import Derived.Test.YtfdlhakfmbdamaaDoorPKeyT
import Derived.Test.YtfdlhakfmbdamaaDoorPFs7
set_option linter.unusedVariables false
set_option linter.unusedSimpArgs false
set_option maxRecDepth 100000
namespace Go.Proofs.YtfdlhakfmbdamaaDoor
open Go.VC
theorem rise_eq : ∀ {l m : List ByteArray}, l.Pairwise (fun x y => ltT x y = true) → m.Pairwise (fun x y => ltT x y = true) → (∀ x, x ∈ l ↔ x ∈ m) → l = m
  | [], [], _, _, _ => rfl
  | [], b :: m, _, _, h => by have := (h b).2 (by simp); cases this
  | a :: l, [], _, _, h => by have := (h a).1 (by simp); cases this
  | a :: l, b :: m, hl, hm, h => by
    rw [List.pairwise_cons] at hl hm
    have hab : a = b := by
      rcases List.mem_cons.1 ((h a).1 (by simp)) with e | h1
      · exact e
      · rcases List.mem_cons.1 ((h b).2 (by simp)) with e | h2
        · exact e.symm
        · have := ltT_trans (hl.1 b h2) (hm.1 a h1)
          rw [ltT_irr] at this; cases this
    subst hab
    have hne : ∀ x, x ∈ l → x ≠ a := fun x hx e => by
      have := hl.1 x hx
      rw [e, ltT_irr] at this; cases this
    have hne2 : ∀ x, x ∈ m → x ≠ a := fun x hx e => by
      have := hm.1 x hx
      rw [e, ltT_irr] at this; cases this
    congr 1
    refine rise_eq hl.2 hm.2 fun x => ⟨fun hx => ?_, fun hx => ?_⟩
    · rcases List.mem_cons.1 ((h x).1 (List.mem_cons_of_mem _ hx)) with e | h1
      · exact absurd e (hne x hx)
      · exact h1
    · rcases List.mem_cons.1 ((h x).2 (List.mem_cons_of_mem _ hx)) with e | h1
      · exact absurd e (hne2 x hx)
      · exact h1
/-- Files as they stand in a system. -/
structure FsOk (l : List (ByteArray × ByteArray)) : Prop where
  rise : Rise l
  len : l.length ≤ 64
  name : ∀ p ∈ l, p.1.size ≤ 32
  data : ∀ p ∈ l, p.2.size ≤ maxLen
theorem Rise.keys {l : List (ByteArray × ByteArray)} (h : Rise l) : (l.map (·.1)).Pairwise (fun x y => ltT x y = true) := List.pairwise_map.2 h
theorem data_at {l : List (ByteArray × ByteArray)} (h : Rise l) {p : ByteArray × ByteArray} (hp : p ∈ l) : dataM l p.1 = p.2 := by
  unfold dataM lookF
  induction l with
  | nil => cases hp
  | cons q l ih =>
    rw [List.find?_cons]
    by_cases hq : q.1 = p.1
    · rw [decide_eq_true hq]
      rcases List.mem_cons.1 hp with e | hp
      · rw [e]; rfl
      · have := (List.pairwise_cons.1 h).1 p hp
        rw [hq, ltT_irr] at this; cases this
    · rw [decide_eq_false hq]
      rcases List.mem_cons.1 hp with e | hp
      · rw [e] at hq; exact absurd rfl hq
      · exact ih (List.pairwise_cons.1 h).2 hp
theorem front_perm {α : Type} : ∀ {l : List α} {i : Nat} {p : α}, l[i]? = some p → (p :: l.eraseIdx i).Perm l
  | [], i, p, h => by simp at h
  | a :: l, 0, p, h => by
    have : a = p := by simpa using h
    subst this
    exact List.Perm.refl _
  | a :: l, i + 1, p, h => by
    have h2 : l[i]? = some p := by simpa using h
    exact (List.Perm.swap a p _).trans ((front_perm h2).cons a)
theorem set_back {α : Type} {ps : List α} {i : Nat} {p q : α} (h : ps[i]? = some p) : (ps.set i q).set i p = ps := by
  rw [List.set_set]
  obtain ⟨h1, rfl⟩ := List.getElem?_eq_some_iff.1 h
  exact List.set_getElem_self h1
set_option maxHeartbeats 8000000 in
theorem list_p {B : Nat → Prop} {H0 H : Heap} {ps : List Pc} {i s fm rm wm : Nat} {x : Fs} (st : StB B H0 H ps) (sy : SysAt ps i s fm rm wm x) (hx : FsOk x.files) :
    FnOk Tryd.prog 8 #[.pointer (some ⟨s, 0, none⟩)] H fun v H' => ∃ a cap, v = .slice a x.files.length cap ∧ StB B H0 H' (ps ++ [pS tFile 33 a x.files.length cap x.files]) := by
  have hlen := hx.len
  refine FnOk.of_vc Tryd.func8 rfl (Tryd.call8 _) ?_
  (conv => whnf); refine peqS Tryd.underlying27 ?_
  (conv => whnf); refine VC.fa fl83_0 ?_
  (conv => whnf); refine ld1 (v := .map (some fm)) ct76 (by rw [(st.blk _ sy.p1).cell]; rfl) trivial ?_
  have st1 := st.say i sy.p0 (pMW anyK Value.string fm (fileV x.files)) ⟨st.at_ i sy.p0, fun _ _ _ => trivial⟩ (fun k hk => hk)
  have hp1 : (ps.set i (pMW anyK Value.string fm (fileV x.files)))[i]? = some (pMW anyK Value.string fm (fileV x.files)) := getS sy.p0
  (conv => whnf); refine VCall.mk (R := fun v H' => ∃ bx, v = .func (.func 34) #[] #[.pointer (some ⟨bx, 0, none⟩)] ∧ StB B H0 H' (ps.set i (pMW anyK Value.string fm (fileV x.files)) ++ [pB 76 bx [.map (some fm)]])) ?_ ?_
  · refine FnOk.of_vc Tryd.func21 rfl (Tryd.call21 _) ?_
    (conv => whnf); refine vbox [.map (some fm)] rfl ?_
    intro bx H1 hq1 hs1 hb1 ha1
    have st2 := st1.box hq1 hs1 hb1 ha1
    (conv => whnf)
    exact ⟨bx, rfl, st2⟩
  · rintro _ H1 ⟨bx, rfl, st2⟩
    have hpm := front_perm hp1
    have st3 := st2.perm ((List.perm_append_singleton _ _).trans ((hpm.symm.cons _).trans (List.Perm.swap _ _ _)))
    (conv => whnf); refine VCall.mk (sortedKeys_c (lk := x.files.map (·.1)) (by simp; omega) (fun q hq => by
      have hm : q ∈ x.files.map (·.1) := lookF_some.1 (by rw [← fileV_some]; exact hq)
      obtain ⟨p, hp, rfl⟩ := List.mem_map.1 hm
      have := hx.name p hp
      exact ⟨by unfold maxLen; omega, hm⟩) st3) ?_
    rintro _ H2 ⟨ks, a, cap, rfl, hks, hin, st4⟩
    obtain rfl : ks = x.files.map (·.1) := rise_eq hks hx.rise.keys fun y => by
      rw [hin]
      show (fileV x.files y).isSome = true ↔ _
      rw [fileV_some, lookF_some]
    have st5 : StB B H0 H2 (pB 76 bx [.map (some fm)] :: pS tIk 9 a (x.files.map (·.1)).length cap (x.files.map (·.1)) :: ps.set i (pMW anyK Value.string fm (fileV x.files))) := st4.perm (((List.Perm.swap _ _ _).cons _).trans ((List.Perm.swap _ _ _).trans ((hpm.cons _).cons _)))
    have st6 := st5.sub (List.sublist_cons_self _ _)
    have st7 := (st6.perm (List.perm_append_singleton _ _).symm).say i (getL hp1) (pM Value.string fm (fileV x.files)) (st6.perm (List.perm_append_singleton _ _).symm |>.at_ i (getL hp1)).1 (fun k hk => hk)
    rw [setL_ hp1, set_back sy.p0] at st7
    have hfl : (x.files.map (·.1)).length = x.files.length := List.length_map _
    have st8 := st7.nils tFile 33
    rw [List.append_assoc, List.cons_append, List.nil_append] at st8
    (conv => whnf)
    refine VLoop.mk [3, 15] (fun y : Nat × Option Addr × Nat => match y with | (k, a', c') => [.slice a' k c', .int .i64 (k : Int)]) (fun y G => match y with | (k, a', c') => k ≤ x.files.length ∧ StB B H0 G (ps ++ [pS tIk 9 a (x.files.map (·.1)).length cap (x.files.map (·.1)), pS tFile 33 a' k c' (x.files.take k)])) (fun y _ => match y with | (k, _, _) => x.files.length - k) ?_ ?_
    · (conv => whnf)
      exact ⟨(0, none, 0), rfl, Nat.zero_le _, st8⟩
    · rintro ⟨k, a', c'⟩ G junk ⟨hk, stg⟩
      have hbs := stg.blk _ (getL sy.p1)
      have hms : MapF Value.string G fm (fileV x.files) := stg.at_ i (getL sy.p0)
      (conv => whnf); refine VIte.mk (fun hz => ?_) (fun hz => ?_) <;> simp only [decide_eq_true_eq, decide_eq_false_iff_not] at hz
      · have hz : (k : Int) < ((x.files.map (·.1)).length : Int) := hz
        rw [hfl] at hz
        have hkl : k < x.files.length := by omega
        obtain ⟨p, hpk⟩ : ∃ p, x.files[k]? = some p := ⟨x.files[k], List.getElem?_eq_getElem hkl⟩
        have hpm' : p ∈ x.files := List.mem_of_getElem? hpk
        have hdt := data_at hx.rise hpm'
        have htk : x.files.take (k + 1) = x.files.take k ++ [p] := by rw [List.take_add_one, hpk]; rfl
        have hz1 := hx.name p hpm'
        have hz2 := hx.data p hpm'
        (conv => whnf); refine ixO sl71 stg ps.length (g4 ps _ 0) (x := p.1) (j := k) (by rw [List.getElem?_map, hpk]; rfl) rfl ?_
        intro bb oo cc hbb hcc hrr
        obtain ⟨rfl, -⟩ := hrr
        (conv => whnf); refine ld1 (v := .string p.1) ct9 (by have := hcc 0 (.string p.1) rfl; simpa using this) trivial ?_
        (conv => whnf); refine VC.fa fl83_0 ?_
        (conv => whnf); refine ld1 (v := .map (some fm)) ct76 (by rw [hbs.cell]; rfl) trivial ?_
        (conv => whnf); refine mlook (a := p.1) mapFi keyS hms trivial ?_
        rw [fileV_get, hdt]
        (conv => whnf); refine fld1 fl78_0 ct9 (v := .string p.2) rfl ?_
        (conv => whnf); refine vbuildS Tryd.underlying33 rfl _ rfl (fileL p) rfl ?_
        (conv => whnf); refine vbuild1 sl31 (fileL p) rfl rfl (by decide) (by decide) ?_
        intro q21 H21 hq21 hs21 hb21 ha21
        (conv => whnf); refine appO (ys := [p]) (stg.skip hq21 ha21) (ps.length + 1) sl31 (g4 ps _ 1) (hb21.cells fun j v hv => by rw [Nat.zero_add]; exact hv) (Ty.reps_one ⟨[.string p.1], [.string p.2], rfl, ⟨rfl, by unfold maxLen; omega⟩, ⟨rfl, hz2⟩⟩) rfl (by intro u hu; simp [fileL] at hu; rcases hu with rfl | rfl <;> rfl) (by simp; omega) (by decide) fun a'' c'' H22 so2 _ => ?_
        have el : (x.files.take k).length + [p].length = k + 1 := by rw [List.length_take, List.length_singleton]; omega
        rw [s4, el, ← htk] at so2
        rw [el]
        (conv => whnf); rw [w64 (x := (k : Int) + 1) (by omega) (by omega)]
        exact ⟨rfl, (k + 1, a'', c''), rfl, ⟨by omega, so2⟩, by show x.files.length - (k + 1) < x.files.length - k; omega⟩
      · have hz : ¬ (k : Int) < ((x.files.map (·.1)).length : Int) := hz
        rw [hfl] at hz
        obtain rfl : k = x.files.length := by omega
        rw [List.take_length] at stg
        (conv => whnf)
        refine ⟨a', c', rfl, ?_⟩
        exact stg.sub (List.Sublist.append (List.Sublist.refl _) (List.sublist_cons_self _ _))
end Go.Proofs.YtfdlhakfmbdamaaDoor
