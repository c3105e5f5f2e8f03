/- Parts of the proof: PDet6, PDet7, PTabs, PRefA, PLives, PRefB, PSame5, PTables, PSameW, PCel1, PCOk, PReps, PNode, PGr, PFst, PAmbC, PCatI, PCel2, PBoth, PGam0, PMeg, PDDt, PAtEq, PDLw, PMin1, PMin2, PMin3, PMin4, PMin5, PMin6, PMin7, PMin8, PCan7, PSame7, PCan8, PCan9, PLay5, PBu, PBu2, PBu3, PShw1, PShw2, PShw3, PShw4, PShw5, PShw6, PNum, PTab0, PDec, PBfsG, PMin9, PMin10, PMin11, PAut09, PSpk, PCan10, POdd7, PNews, PCel3, PCan11, PLg1, VIf, PBld, PNfa5, PNfa6, PTxt -/
import Derived.Test.YtfbghcpdinlmcaaGreatDoorKLb3
import Derived.Test.YtfbghcpdinlmcaaGreatDoorKLb2
import Derived.Test.YtfbghcpdinlmcaaGreatDoorKLb1
import Derived.Shelf.Small.Strs
import Derived.Shelf.Strings.BuilderK
import Derived.Shelf.LaysM
import Derived.Shelf.Strconv.Itoa3
/- Explore over sets of states: the walk. -/
set_option linter.unusedVariables false
set_option linter.unusedSimpArgs false
set_option maxRecDepth 100000
namespace Go.Proofs.YtfbghcpdinlmcaaGreatDoor
open Go.VC
def HasF (a : NfM) (F : List (List Int)) : Prop := ∀ l ∈ F, (∀ q ∈ l, a.has q = true) ∧ l.length ≤ 65536
theorem HasF.rng {a : NfM} {F : List (List Int)} (h : HasF a F) : RngF F := fun l hl => ⟨fun q hq => by have := NfM.has_iff.1 ((h l hl).1 q hq); omega, (h l hl).2⟩
theorem stepA_len {a : NfM} {l : List Int} {b : Nat} : (stepA a l b).length ≤ 65536 := lstS_len _
theorem atF_mem {most : Nat} {F F' : List (List Int)} {k : List Int} {i : Nat} (h : atF most F k = some (F', i)) : ∀ x ∈ F', x ∈ F ∨ x = k := by
  intro x hx
  unfold atF at h
  split at h
  · injection h with h; injection h with h1 h2; subst h1; exact .inl hx
  · split at h
    · injection h with h; injection h with h1 h2; subst h1
      rcases List.mem_append.1 hx with hx | hx
      · exact .inl hx
      · rw [List.mem_singleton] at hx; exact .inr hx
    · cases h
theorem atF_len {most : Nat} {F F' : List (List Int)} {k : List Int} {i : Nat} (h : atF most F k = some (F', i)) (hl : F.length ≤ most) : F'.length ≤ most ∧ i < most := by
  unfold atF at h
  split at h
  · rename_i j hj
    injection h with h; injection h with h1 h2; subst h1; subst h2
    have := (List.findIdx?_eq_some_iff_getElem.1 hj).1
    omega
  · split at h
    · injection h with h; injection h with h1 h2; subst h1; subst h2
      simp only [List.length_append, List.length_cons, List.length_nil]; omega
    · cases h
theorem HasF.at_ {a : NfM} {most : Nat} {F F' : List (List Int)} {x : List Int} {b i : Nat} (h : HasF a F) (hx : atF most F (stepA a x b) = some (F', i)) : HasF a F' := fun l hl => by
  rcases atF_mem hx l hl with h1 | rfl
  · exact h l h1
  · exact ⟨stepA_rng, stepA_len⟩
def rowI (r : List Nat) : List Int := r.map fun (x : Nat) => (x : Int)
def bsOf (cs : List (BitVec 256)) : List Nat := cs.map fun c => (nextM c 0).1
theorem bsOf_get {cs : List (BitVec 256)} {j : Nat} {c : BitVec 256} (h : cs[j]? = some c) : (bsOf cs)[j]? = some (nextM c 0).1 := by
  unfold bsOf
  rw [List.getElem?_map, h]
  rfl
/-- What Explore answers. -/
noncomputable def ExpR (a : NfM) (most : Nat) (cs : List (BitVec 256)) (l0 : List Int) (H H' : Heap) (r : Value) : Prop := Agr (Old H) H H' ∧
  match detF most (stepA a) (bsOf cs) l0 with
  | none => r = .tuple #[.pointer none, .bool false]
  | some (F, rows) => ∃ v, r = .tuple #[v, .bool true] ∧ AutoV (fun k => H.size ≤ k ∧ k < H'.size) H' v (if soundB cs (rows.map rowI) F.length then some (madeM cs (rows.map rowI) (F.map fun l => decide (a.fin ∈ l))) else none)
set_option maxHeartbeats 16000000 in
theorem explore_c {S : Nat → Prop} {H : Heap} {a : NfM} {nv sv : Value} {wb pb : Nat} {ca : Option Addr} {cc most : Nat} {cs : List (BitVec 256)} {l0 : List Int} (hS : ∀ k, S k → k < H.size) (hwb : S wb) (hwc : Cells H wb 0 [nv]) (hnv : NetV S H nv a) (hpb : S pb) (hpc : Cells H pb 0 (nfL a sv)) (hel : a.edges.length ≤ 1048576) (hpow : PowH Tryz.prog H)
    (hcs : SlD tSet S H ca cc cs) (hcl : cs.length ≤ 256) (hl0 : ∀ q ∈ l0, a.has q = true) (hl0l : l0.length ≤ 65536) (hm1 : 1 ≤ most) (hm : most ≤ 4096) :
    FnOk Tryz.prog 95 #[.string (nmB l0), .slice ca cs.length cc, .func (.func 90) #[] #[.pointer (some ⟨wb, 0, none⟩)], .func (.func 93) #[] #[.pointer (some ⟨pb, 0, none⟩)], .int .i64 (most : Int)] H fun r H' => ExpR a most cs l0 H H' r := by
  have hF0 : HasF a [l0] := fun l hl => by rw [List.mem_singleton] at hl; subst hl; exact ⟨hl0, hl0l⟩
  refine FnOk.of_vc Tryz.func95 rfl (Tryz.call95 _) ?_
  (conv => whnf); refine mmakeW (Ok := anyK) (enc := Value.string) fun mb H1 hb1 hs1 hm1' ha1 => ?_
  have st1 := (St.nil H).mapNewW hb1 hs1 hm1' ha1
  (conv => whnf); refine vbuildS Tryz.underlying259 rfl (.agg #[.map none, .slice none 0 0, .int .i64 0]) rfl (exL mb (.slice none 0 0) most) rfl ?_
  (conv => whnf); refine vbox (exL mb (.slice none 0 0) most) rfl ?_
  intro xb H2 hxb hs2 hb2 ha2
  have st2 : St H H2 (exS xb mb none 0 most [] []) := ((st1.box hxb hs2 hb2 ha2).nils tStr 9).pick [1, 0, 2] (by decide)
  have hat0 : atF most ([] : List (List Int)) l0 = some ([l0], 0) := by
    unfold atF
    rw [List.findIdx?_nil]
    simp only
    rw [if_pos (by simp only [List.length_nil]; omega)]
    rfl
  (conv => whnf); refine at5_v st2 (fun l hl => by cases hl) (fun q hq => (hF0.rng l0 (by simp)).1 q hq) hl0l hm (Nat.zero_le _) (fun F' i fa' fc' H3 h1 st3 => ?_) (fun H3 h1 _ => ?_)
  · rw [hat0] at h1
    injection h1 with h1
    injection h1 with h1 h2
    subst h1; subst h2
    have st4 : St H H3 (exS xb mb fa' fc' most [l0] [pN (tSl tIk) none_ 41 none 0 0 [], pS tBool 4 none 0 0 []]) := (st3.nils (tSl tIk) 41).nils tBool 4
    (conv => whnf)
    refine VLoop.mk [15, 16, 17] (fun x : Nat × List (List Int) × List (List Nat) × Option Addr × Nat × Option Addr × Nat => match x with | (i, F, rows, na, nc, ba, bc) => [.slice na i nc, .slice ba i bc, .int .i64 (i : Int)])
      (fun x H4 => match x with | (i, F, rows, na, nc, ba, bc) => i ≤ F.length ∧ F.length ≤ most ∧ HasF a F ∧ rows.length = i ∧ rowsF most (stepA a) (bsOf cs) l0 i = some (F, rows) ∧ ∃ Sx fa fc, St H H4 (exS xb mb fa fc most F [pN (tSl tIk) Sx 41 na i nc (rows.map rowI), pS tBool 4 ba i bc ((F.take i).map fun l => decide (a.fin ∈ l))])) (fun x _ => most - x.1) ?_ ?_
    · (conv => whnf)
      exact ⟨(0, [l0], [], none, 0, none, 0), rfl, Nat.zero_le _, by simp only [List.length_cons, List.length_nil]; omega, hF0, rfl, rfl, none_, fa', fc', st4⟩
    · rintro ⟨i, F, rows, na, nc, ba, bc⟩ H4 junk4 ⟨hiF, hFm, hHF, hrl, hrun, Sx, fa, fc, st5⟩
      have hb5 := st5.blk 0 rfl
      (conv => whnf); refine VC.fa fl259_1 ?_
      (conv => whnf); refine ld1 (v := .slice fa F.length fc) ct257 (by rw [hb5.cell]; rfl) trivial ?_
      (conv => whnf); refine VIte.mk (fun hz => ?_) (fun hz => ?_) <;> simp only [decide_eq_true_eq, decide_eq_false_iff_not] at hz
      · obtain ⟨x, hx⟩ := get_some (l := F) (k := i) (by omega)
        obtain ⟨hxh, hxl⟩ := hHF x (List.mem_of_getElem? hx)
        have hnext : rowsF most (stepA a) (bsOf cs) l0 (i + 1) = ((bsOf cs).foldl (rowF most (stepA a) x) (some (F, []))).map fun r => (r.1, rows ++ [r.2]) := by
          show (rowsF most (stepA a) (bsOf cs) l0 i).bind _ = _
          rw [hrun]
          simp only [Option.bind_some, hx]
        (conv => whnf); refine vmake1 sl41 rfl (by omega) (by omega) (by omega) (by omega) ?_
        intro rb H6 hrb hs6 hb6 ha6
        rw [Int.toNat_natCast] at hb6
        rw [Int.toNat_natCast, show (0 : Int).toNat = 0 from rfl]
        have st6 := st5.newCap (T := tIk) (cap := cs.length) hrb hs6 hb6 ha6 (by simp [tInt]) (by unfold maxLen; omega)
        (conv => whnf)
        refine VLoop.mk [18, 51] (fun y : Nat × List (List Int) × List Nat × Option Addr × Nat => match y with | (j, F', row, ra, rc) => [.slice ra row.length rc, .int .i64 (j : Int)])
          (fun y H7 => match y with | (j, F', row, ra, rc) => j ≤ cs.length ∧ F'.length ≤ most ∧ HasF a F' ∧ F <+: F' ∧ row.length = j ∧ ((bsOf cs).take j).foldl (rowF most (stepA a) x) (some (F, [])) = some (F', row) ∧ ∃ fa fc, St H H7 (exS xb mb fa fc most F' [pN (tSl tIk) Sx 41 na i nc (rows.map rowI), pS tBool 4 ba i bc ((F.take i).map fun l => decide (a.fin ∈ l)), pS tIk 3 ra row.length rc (rowI row)])) (fun y _ => cs.length - y.1) ?_ ?_
        · (conv => whnf)
          exact ⟨(0, F, [], some ⟨rb, 0, none⟩, cs.length), rfl, Nat.zero_le _, hFm, hHF, List.prefix_refl _, rfl, rfl, fa, fc, st6⟩
        · rintro ⟨j, F', row, ra, rc⟩ H7 junk7 ⟨hj, hF'm, hHF', hpre, hrowl, hfold, fa7, fc7, st7⟩
          (conv => whnf); refine VIte.mk (fun hz2 => ?_) (fun hz2 => ?_) <;> simp only [decide_eq_true_eq, decide_eq_false_iff_not] at hz2
          · obtain ⟨c, hc⟩ := get_some (l := cs) (k := j) (by omega)
            have hbs := bsOf_get hc
            have hblt := nextM_lt c 0
            have hxF' := pre_get hpre hx
            (conv => whnf); refine ixr (i := j) sl106 (hcs.frame (st7.old.mono hS)) hc rfl ?_
            rintro b8 o8 cs8 hS8 hc8 rfl
            (conv => whnf); refine ldN (cs := setL c) ag101 hc8 trivial ?_
            (conv => whnf); refine valloc (setV 0) (setL 0) rfl rfl ?_
            intro sx H8 hsx hs8 hb8 ha8
            have st8 := st7.box hsx hs8 hb8 ha8
            (conv => whnf); refine stNB (cs := setL c) st8 6 rfl rfl (Nat.le_refl _) rfl fun H9 st9 => ?_
            rw [splice_all (show (setL c).length = (setL 0).length from rfl)] at st9
            (conv => whnf); refine ldN (cs := setL c) ag101 ((st9.blk 6 rfl).cells fun j v hv => by rw [Nat.zero_add]; exact hv) trivial ?_
            (conv => whnf); refine pures (next_p c 0 (by decide) H9) fun H10 ha10 => ?_
            have st10 := st9.call ha10
            have hb10 := st10.blk 0 rfl
            (conv => whnf); refine VC.fa fl259_1 ?_
            (conv => whnf); refine ld1 (v := .slice fa7 F'.length fc7) ct257 (by rw [hb10.cell]; rfl) trivial ?_
            have hview := st10.view 2 rfl
            have hgx : (F'.map nmB)[i]? = some (nmB x) := by rw [List.getElem?_map, hxF']; rfl
            (conv => whnf); refine ixrn (i := i) sl257 hview (List.length_map _).symm hgx rfl ?_
            rintro b11 o11 c11 hS11 hc11 ⟨rfl, -⟩
            (conv => whnf); refine ld1 ct9 hc11.one trivial ?_
            have up10 : ∀ k, S k → k < H10.size := fun k hk => st10.up (hS k hk)
            (conv => whnf); refine VCall.mk (step5_c (S := S) up10 hwb (hwc.eq (st10.old wb (hS wb hwb))) (hnv.frame (st10.old.mono hS)) hel hxh hxl hblt (hpow.agr st10.old)) ?_
            rintro _ H11 ⟨rfl, ha11⟩
            have st11 := st10.call ha11
            replace st11 : St H H11 (exS xb mb fa7 fc7 most F' [pN (tSl tIk) Sx 41 na i nc (rows.map rowI), pS tBool 4 ba i bc ((F.take i).map fun l => decide (a.fin ∈ l)), pS tIk 3 ra row.length rc (rowI row)]) := st11.pick [0, 1, 2, 3, 4, 5] (by decide)
            have hstep : ((bsOf cs).take (j + 1)).foldl (rowF most (stepA a) x) (some (F, [])) = (atF most F' (stepA a x (nextM c 0).1)).map fun r => (r.1, row ++ [r.2]) := by
              rw [take_succ_snoc hbs, List.foldl_append, hfold]
              rfl
            (conv => whnf); refine at5_v st11 hHF'.rng (fun q hq => by have := NfM.has_iff.1 (stepA_rng q hq); omega) stepA_len hm hF'm (fun F2 t fa12 fc12 H12 h12 st12 => ?_) (fun H12 h12 st12 => ?_)
            · obtain ⟨hl2, htm⟩ := atF_len h12 hF'm
              rw [h12] at hstep
              (conv => whnf); refine vbuild1 sl41 [.int .i64 (t : Int)] rfl rfl (by decide) (by decide) ?_
              intro q13 H13 hq13 hs13 hb13 ha13
              (conv => whnf); refine app1 (x := (t : Int)) (st12.skip hq13 ha13) 5 sl41 rfl hb13 ⟨rfl, kint ⟨by omega, by omega⟩⟩ rfl (by unfold rowI; rw [List.length_map]; omega) (by decide) fun a14 c14 H14 st14 _ => ?_
              have e1 : (rowI row).length + 1 = (row ++ [t]).length := by unfold rowI; simp
              have e2 : rowI row ++ [(t : Int)] = rowI (row ++ [t]) := by unfold rowI; simp
              rw [e1, e2] at st14
              rw [e1]
              (conv => whnf); rw [w64 (x := (j : Int) + 1) (by omega) (by omega)]
              exact ⟨rfl, (j + 1, F2, row ++ [t], a14, c14), by simp, ⟨by omega, hl2, hHF'.at_ h12, hpre.trans (by
                unfold atF at h12
                split at h12
                · injection h12 with h; injection h with h1 h2; subst h1; exact List.prefix_refl _
                · split at h12
                  · injection h12 with h; injection h with h1 h2; subst h1; exact List.prefix_append _ _
                  · cases h12), by simp [hrowl], hstep, fa12, fc12, st14⟩, by simp only; omega⟩
            · rw [h12] at hstep
              have hnone : (bsOf cs).foldl (rowF most (stepA a) x) (some (F, [])) = none := by
                have h3 := (List.take_append_drop (j + 1) (bsOf cs)).symm
                rw [h3, List.foldl_append, hstep]
                exact rowF_none x _
              have hdet : detF most (stepA a) (bsOf cs) l0 = none := detF_none (n := i) (by rw [hnext, hnone]; rfl) (by omega)
              (conv => whnf)
              refine ⟨st12.old, ?_⟩
              rw [hdet]
          · obtain rfl : j = cs.length := by omega
            have hfull : (bsOf cs).foldl (rowF most (stepA a) x) (some (F, [])) = some (F', row) := by
              rw [← hfold, List.take_of_length_le (by unfold bsOf; rw [List.length_map]; exact Nat.le_refl _)]
            rw [hfull] at hnext
            simp only [Option.map_some] at hnext
            have hxF' := pre_get hpre hx
            have hri : (rowI row).length = row.length := by unfold rowI; rw [List.length_map]
            have hrl2 : (rows.map rowI).length = i := by rw [List.length_map]; exact hrl
            have hend : ((F'.take (i + 1)).map fun l => decide (a.fin ∈ l)) = ((F.take i).map fun l => decide (a.fin ∈ l)) ++ [decide (a.fin ∈ x)] := by
              obtain ⟨t, rfl⟩ := hpre
              rw [List.take_append_of_le_length (by omega), take_succ_snoc hx, List.map_append]
              rfl
            have hel7 : ((F.take i).map fun l => decide (a.fin ∈ l)).length = i := by rw [List.length_map, List.length_take]; omega
            obtain ⟨ra', rc', er, hrow7, -⟩ := (st7.at_ 5 rfl).1.view (S' := slB (.slice ra row.length rc)) (fun b hb => hb) (fun b hb => hb.elim)
            injection er with er1 er2 er3
            subst er1; subst er3
            have st8 : St H H7 (pN (tSl tIk) (fun k => Sx k ∨ slB (.slice ra row.length rc) k) 41 na i nc (rows.map rowI) :: [pB tEx xb (exL mb (.slice fa7 F'.length fc7) most), pMW anyK Value.string mb (exM F'), pS tStr 9 fa7 F'.length fc7 (F'.map nmB), pS tBool 4 ba i bc ((F.take i).map fun l => decide (a.fin ∈ l))]) := StB.absorb (st7.pick [3, 5, 0, 1, 2, 4] (by decide))
            (conv => whnf); refine vbuild1 sl35 [.slice ra row.length rc] rfl rfl (by decide) (by decide) ?_
            intro q13 H13 hq13 hs13 hb13 ha13
            have st13 := st8.skip hq13 ha13
            have hrow13 : SlD tIk (fun k => Sx k ∨ slB (.slice ra row.length rc) k) H13 ra rc (rowI row) := (hrow7.frame (ha13.mono fun k hk => by
              have := (st7.in_ 5 rfl (.inl hk)).2
              omega)).mono fun k hk => .inr hk
            (conv => whnf); refine appNO (row := rowI row) st13 sl35 (hb13.cells fun j v hv => by rw [Nat.zero_add]; exact hv) ⟨ra, rc, by rw [hri], hrow13⟩ rfl (fun u hu => by cases List.mem_singleton.1 hu; rfl) (by rw [hrl2]; omega) (by decide) fun a14 c14 H14 st14 => ?_
            rw [hrl2] at st14 ⊢
            have hb14 := st14.blk 1 rfl
            (conv => whnf); refine VC.fa fl259_1 ?_
            (conv => whnf); refine ld1 (v := .slice fa7 F'.length fc7) ct257 (by rw [hb14.cell]; rfl) trivial ?_
            have hgx : (F'.map nmB)[i]? = some (nmB x) := by rw [List.getElem?_map, hxF']; rfl
            (conv => whnf); refine ixrn (i := i) sl257 (st14.view 3 rfl) (List.length_map _).symm hgx rfl ?_
            rintro b11 o11 c11 hS11 hc11 ⟨rfl, -⟩
            (conv => whnf); refine ld1 ct9 hc11.one trivial ?_
            have up14 : ∀ k, S k → k < H14.size := fun k hk => st14.up (hS k hk)
            (conv => whnf); refine pures (final5_p (S := S) up14 hpb (hpc.eq (st14.old pb (hS pb hpb))) (hHF.rng x (List.mem_of_getElem? hx)).1 hxl) fun H15 ha15 => ?_
            have st15 := st14.call ha15
            (conv => whnf); refine vbuild1 sl36 [.bool (decide (a.fin ∈ x))] rfl rfl (by decide) (by decide) ?_
            intro q16 H16 hq16 hs16 hb16 ha16
            (conv => whnf); refine app1 (x := decide (a.fin ∈ x)) (st15.skip hq16 ha16) 4 sl36 rfl hb16 rfl rfl (by rw [hel7]; omega) (by decide) fun a17 c17 H17 st17 _ => ?_
            rw [hel7, ← hend] at st17
            rw [hel7]
            (conv => whnf); rw [w64 (x := (i : Int) + 1) (by omega) (by omega)]
            refine ⟨rfl, (i + 1, F', rows ++ [row], a14, c14, a17, c17), by simp, ⟨?_, hF'm, hHF', by simp [hrl], hnext, (fun k => Sx k ∨ slB (.slice ra row.length rc) k), fa7, fc7, ?_⟩, by simp only; omega⟩
            · have := (List.getElem?_eq_some_iff.1 hxF').1
              omega
            · have e5 : rows.map rowI ++ [rowI row] = (rows ++ [row]).map rowI := by simp
              rw [e5] at st17
              exact st17.pick [1, 2, 3, 0, 4] (by decide)
      · obtain rfl : i = F.length := by omega
        rw [List.take_length] at st5
        have hrl2 : (rows.map rowI).length = F.length := by rw [List.length_map]; exact hrl
        have hdet := detF_done hrun rfl hFm
        have hnew := new_c ca na ba cc nc bc cs (rows.map rowI) (F.map fun l => decide (a.fin ∈ l)) (Old H4) H4 (fun k hk => hk) ((hcs.frame (st5.old.mono hS)).mono fun k hk => st5.up (hS k hk)) (st5.view 3 rfl) (st5.view 4 rfl)
        rw [hrl2, List.length_map] at hnew
        (conv => whnf); refine VCall.mk hnew ?_
        rintro v H6 ⟨ha6, hs6, hv6⟩
        have st6 := st5.call ha6
        (conv => whnf)
        refine ⟨st6.old, ?_⟩
        rw [hdet]
        exact ⟨v, rfl, hv6.mono fun k hk => ⟨Nat.le_trans (old_size st5.old) hk.1, hk.2⟩⟩
  · rw [hat0] at h1
    cases h1
end Go.Proofs.YtfbghcpdinlmcaaGreatDoor
/- dfa.Determinize: the walk. -/
set_option linter.unusedVariables false
set_option linter.unusedSimpArgs false
set_option maxRecDepth 100000
namespace Go.Proofs.YtfbghcpdinlmcaaGreatDoor
open Go.VC
theorem sum_set {β : Type} : ∀ (xs : List (List β)) (q : Nat) (row z : List β), xs[q]? = some row → ((xs.set q z).map List.length).sum + row.length = (xs.map List.length).sum + z.length
  | [], q, row, z, h => by simp at h
  | x :: xs, 0, row, z, h => by
    simp only [List.getElem?_cons_zero, Option.some.injEq] at h
    subst h
    simp only [List.set_cons_zero, List.map_cons, List.sum_cons]
    omega
  | x :: xs, q + 1, row, z, h => by
    rw [List.getElem?_cons_succ] at h
    have := sum_set xs q row z h
    simp only [List.set_cons_succ, List.map_cons, List.sum_cons]
    omega
theorem grp_far {β : Type} {n q : Nat} {key : EdM → Option (Nat × β)} {l : List EdM} {e : EdM} {y : β} (h : key e = some (q, y)) (hq : n ≤ q) : grp n key (l ++ [e]) = grp n key l := by
  unfold grp
  refine List.map_congr_left fun j hj => ?_
  rw [List.filterMap_append]
  have hjq : q ≠ j := by have := List.mem_range.1 hj; omega
  simp [h, hjq]
theorem grp_sum {β : Type} (n : Nat) (key : EdM → Option (Nat × β)) (l : List EdM) : ∀ k, k ≤ l.length → ((grp n key (l.take k)).map List.length).sum ≤ k := by
  intro k
  induction k with
  | zero =>
    intro _
    rw [List.take_zero, grp_nil, List.map_replicate]
    simp
  | succ k ih =>
    intro hk
    obtain ⟨e, he⟩ := get_some (l := l) (k := k) (by omega)
    have := ih (by omega)
    rw [take_succ_snoc he]
    cases hke : key e with
    | none => rw [grp_none hke]; omega
    | some p =>
      obtain ⟨q, y⟩ := p
      by_cases hq : q < n
      · obtain ⟨row, hrow⟩ := get_some (l := grp n key (l.take k)) (k := q) (by rw [grp_len]; exact hq)
        rw [grp_some hke hrow]
        have h2 := sum_set _ _ _ (row ++ [y]) hrow
        simp only [List.length_append, List.length_cons, List.length_nil] at h2
        omega
      · rw [grp_far hke (by omega)]; omega
/-- The sets that the ways take. -/
def setsA (a : NfM) : List (BitVec 256) := (takT a).flatMap fun r => r.map fun e => e.set
theorem flat_len {β γ : Type} (f : β → γ) : ∀ xs : List (List β), (xs.flatMap fun r => r.map f).length = (xs.map List.length).sum
  | [] => rfl
  | x :: xs => by rw [List.flatMap_cons, List.length_append, List.length_map, flat_len f xs, List.map_cons, List.sum_cons]
def setsTo (a : NfM) (i : Nat) : List (BitVec 256) := ((takT a).take i).flatMap fun r => r.map fun e => e.set
theorem setsTo_len (a : NfM) (i : Nat) : (setsTo a i).length ≤ a.edges.length := by
  unfold setsTo
  rw [flat_len]
  have h1 := grp_sum (nstA a) (keyT a) a.edges a.edges.length (Nat.le_refl _)
  rw [List.take_length] at h1
  have h2 : (((takT a).take i).map List.length).sum ≤ ((takT a).map List.length).sum := by
    conv => rhs; rw [← List.take_append_drop i (takT a)]
    rw [List.map_append, List.sum_append]
    omega
  unfold takT at h2 ⊢
  omega
/-- What Determinize answers, of a budget that may be. -/
noncomputable def DetR (a : NfM) (budget : Nat) (H H' : Heap) (r : Value) : Prop := Agr (Old H) H H' ∧
  match detF budget (stepA a) (repsM (setsA a)) (lstS (begS a)) with
  | none => r = .tuple #[.pointer none, .int .i64 40]
  | some (F, rows) => ∃ v, r = .tuple #[v, .int .i64 0] ∧ AutoV (fun k => H.size ≤ k ∧ k < H'.size) H' v (if soundB (atomsM (setsA a)) (rows.map rowI) F.length then some (madeM (atomsM (setsA a)) (rows.map rowI) (F.map fun l => decide (a.fin ∈ l))) else none)
set_option maxHeartbeats 16000000 in
theorem determinize_c {S : Nat → Prop} {H : Heap} {v : Value} {a : NfM} {budget : Nat} (hS : ∀ k, S k → k < H.size) (h : NfV S H v a) (hpow : PowH Tryz.prog H) (hb1 : 1 ≤ budget) (hb2 : budget ≤ 4096) :
    FnOk Tryz.prog 38 #[v, .int .i64 (budget : Int)] H fun r H' => DetR a budget H H' r := by
  have hr := h.1
  have hl := h.2.1
  have d1 : decide ((budget : Int) < 1) = false := decide_eq_false (by omega)
  have d2 : decide ((4096 : Int) < (budget : Int)) = false := decide_eq_false (by omega)
  have hnle := nstA_le a
  refine FnOk.of_vc Tryz.func38 rfl (Tryz.call38 _) ?_
  (conv => whnf); refine nf_box h fun ea ec he0 h1 => ?_
  subst he0
  intro p H1 hp hs1 hbb1 ha1
  have st1 := (St.nil H).box hp hs1 hbb1 ha1
  (conv => whnf); rw [d1]
  (conv => whnf); rw [d2]
  (conv => whnf); refine nf_load hr hl (st1.blk 0 rfl) ag76 trivial (h1.frame (st1.old.mono hS)) fun v2 hv2 => ?_
  (conv => whnf); refine VCall.mk (ready_c (fun k hk => st1.up (hS k hk)) hv2) ?_
  rintro nv H3 ⟨ha3, hnv⟩
  have st3 := st1.call ha3
  have hnv0 := hnv
  obtain ⟨nb, sa, sc, ta, tc, hne, hnb, hncells, hnsil, hntak⟩ := hnv
  subst hne
  (conv => whnf); refine valloc _ [.pointer none] rfl rfl ?_
  intro wb H4 hwb hs4 hb4 ha4
  have u4 : St H3 H4 [pB 168 wb [.pointer none]] := (St.nil H3).box hwb hs4 hb4 ha4
  (conv => whnf); refine st1B u4 0 ct168 rfl (show 0 < 1 by decide) rfl fun H5 u5 => ?_
  replace u5 : St H3 H5 [pB 168 wb [.pointer (some ⟨nb, 0, none⟩)]] := u5
  have u6 : St H3 H5 [pB 168 wb [.pointer (some ⟨nb, 0, none⟩)], pS tSet 101 none 0 0 []] := u5.nils tSet 101
  have htl : (takT a).length = nstA a := grp_len _ _ _
  have hT : ∀ i, (setsTo a i).length ≤ a.edges.length := fun i => setsTo_len a i
  (conv => whnf); refine ld1 (v := .pointer (some ⟨nb, 0, none⟩)) ct168 (by rw [(u6.blk 0 rfl).cell]; rfl) trivial ?_
  (conv => whnf); refine VC.fa fl172_1 ?_
  (conv => whnf); refine ld1 (v := .slice ta (nstA a) tc) ct170 ((hncells.eq (u6.old nb hnb)) 1 _ rfl) trivial ?_
  (conv => whnf)
  refine VLoop.mk [7, 30] (fun x : Nat × Option Addr × Nat => match x with | (i, a5, c5) => [.slice a5 (setsTo a i).length c5, .int .i64 (i : Int)])
    (fun x H6 => x.1 ≤ nstA a ∧ St H3 H6 [pB 168 wb [.pointer (some ⟨nb, 0, none⟩)], pS tSet 101 x.2.1 (setsTo a x.1).length x.2.2 (setsTo a x.1)]) (fun x _ => nstA a - x.1) ?_ ?_
  · (conv => whnf)
    exact ⟨(0, none, 0), rfl, Nat.zero_le _, u6⟩
  · rintro ⟨i, a5, c5⟩ H6 junk6 ⟨hi, u7⟩
    simp only at hi u7
    (conv => whnf); refine VIte.mk (fun hz => ?_) (fun hz => ?_) <;> simp only [decide_eq_true_eq, decide_eq_false_iff_not] at hz
    · obtain ⟨row, hrow⟩ := get_some (l := takT a) (k := i) (by omega)
      have hsucc : setsTo a (i + 1) = setsTo a i ++ row.map fun e => e.set := by
        unfold setsTo
        rw [take_succ_snoc hrow, List.flatMap_append]
        simp
      have hTi := hT (i + 1)
      rw [hsucc, List.length_append, List.length_map] at hTi
      (conv => whnf); refine ixrn (i := i) sl170 (hntak.frame u7.old) htl.symm hrow rfl ?_
      rintro b8 o8 c8 hS8 hc8 ⟨ra, rc, rfl, hrd2⟩
      have hrd : SlD tEd (Old H3) H6 ra rc row := hrd2
      (conv => whnf); refine ld1 ct74 hc8.one trivial ?_
      (conv => whnf)
      refine VLoop.mk [7, 36] (fun x : Nat × Option Addr × Nat => match x with | (j, a6, c6) => [.slice a6 (setsTo a i ++ (row.take j).map fun e => e.set).length c6, .int .i64 (j : Int)])
        (fun x H7 => x.1 ≤ row.length ∧ St H3 H7 [pB 168 wb [.pointer (some ⟨nb, 0, none⟩)], pS tSet 101 x.2.1 (setsTo a i ++ (row.take x.1).map fun e => e.set).length x.2.2 (setsTo a i ++ (row.take x.1).map fun e => e.set)]) (fun x _ => row.length - x.1) ?_ ?_
      · (conv => whnf)
        refine ⟨(0, a5, c5), by simp, Nat.zero_le _, ?_⟩
        simpa using u7
      · rintro ⟨j, a6, c6⟩ H7 junk7 ⟨hj, u8⟩
        simp only at hj u8
        have hrd7 : SlD tEd (Old H3) H7 ra rc row := htak_frame hrd u7 u8 (fun k hk => hk)
        (conv => whnf); refine VIte.mk (fun hz2 => ?_) (fun hz2 => ?_) <;> simp only [decide_eq_true_eq, decide_eq_false_iff_not] at hz2
        · obtain ⟨e, he⟩ := get_some (l := row) (k := j) (by omega)
          have hlen8 : (setsTo a i ++ (row.take j).map fun e => e.set).length ≤ 1048576 := by
            rw [List.length_append, List.length_map, List.length_take]; omega
          (conv => whnf); refine ixr (i := j) sl74 hrd7 he rfl ?_
          rintro b6 o6 c7 hS6 hc6 ⟨rfl, hok⟩
          (conv => whnf); refine ldN (cs := edL e) ag174 hc6 trivial ?_
          (conv => whnf); refine valloc _ [.int .i64 0, .int .i64 0, .bool false, .int .u64 0, .int .u64 0, .int .u64 0, .int .u64 0] edge_z rfl ?_
          intro x H8 hx hs8 hb8 ha8
          have u9 := u8.box hx hs8 hb8 ha8
          (conv => whnf); refine stNB (cs := edL e) u9 2 rfl rfl (Nat.le_refl _) rfl fun H9 u10 => ?_
          rw [splice_all (show (edL e).length = 7 from rfl)] at u10
          (conv => whnf); refine VC.fa fl174_3 ?_
          (conv => whnf); refine ldN (cs := setL e.set) ag101 ((u10.blk 2 rfl).cells fun j v hv => edL_set e j v hv) trivial ?_
          (conv => whnf); refine vbuild1 sl106 (setL e.set) rfl rfl (by decide) (by decide) ?_
          intro q11 H11 hq11 hs11 hb11 ha11
          (conv => whnf); refine appO (ys := [e.set]) (u10.skip hq11 ha11) 1 sl106 rfl (hb11.cells (o := 0) (cs := setL e.set) fun j v hv => by rw [Nat.zero_add]; exact hv) (Ty.reps_one rfl) rfl (fun u hu => List.all_eq_true.1 (show (setL e.set).all (·.oneCell') = true from rfl) u hu) (by simp only [List.length_cons, List.length_nil]; omega) (by decide) fun a12 c12 H12 u12 _ => ?_
          have e1 : (setsTo a i ++ (row.take j).map fun e => e.set) ++ [e.set] = setsTo a i ++ (row.take (j + 1)).map fun e => e.set := by rw [take_succ_snoc he]; simp
          have e2 : (setsTo a i ++ (row.take j).map fun e => e.set).length + [e.set].length = (setsTo a i ++ (row.take (j + 1)).map fun e => e.set).length := by rw [← e1]; exact List.length_append.symm
          rw [e1, e2] at u12
          rw [e2]
          (conv => whnf); rw [w64 (x := (j : Int) + 1) (by omega) (by omega)]
          exact ⟨rfl, (j + 1, a12, c12), by simp, ⟨by simp only; omega, u12.pick [0, 1] (by decide)⟩, by simp only; omega⟩
        · obtain rfl : j = row.length := by omega
          rw [List.take_length, ← hsucc] at u8
          rw [List.take_length, ← hsucc]
          (conv => whnf); rw [w64 (x := (i : Int) + 1) (by omega) (by omega)]
          exact ⟨rfl, (i + 1, a6, c6), by simp, ⟨by simp only; omega, u8⟩, by simp only; omega⟩
    · obtain rfl : i = nstA a := by omega
      have hall : setsTo a (nstA a) = setsA a := by unfold setsTo setsA; rw [← htl, List.take_length]
      have hTl := hT (nstA a)
      rw [hall] at u7 hTl
      rw [hall]
      have st7 : St H H6 [pB 76 p (nfL a (.slice ea a.edges.length ec))] := st3.call u7.old
      have hp7 := st7.blk 0 rfl
      have hw7 := u7.blk 0 rfl
      have hbeg : ∀ q ∈ lstS (begS a), a.has q = true := fun q hq => begS_has a q ((lstS_mem (has_rng (begS_has a)) q).1 hq)
      have hpow3 : PowH Tryz.prog H3 := hpow.agr st3.old
      have hnv6 : NetV (Old H6) H6 (.pointer (some ⟨nb, 0, none⟩)) a := (hnv0.frame u7.old).mono fun k hk => u7.up hk
      (conv => whnf)
      refine VSeq.cut (α := Unit) [12] (fun _ => [.string (nmB (lstS (begS a)))]) (fun _ H8 => Agr (Old H6) H6 H8) ?_ ?_
      · (conv => whnf); refine ld1 (v := .pointer (some ⟨nb, 0, none⟩)) ct168 (by rw [hw7.cell]; rfl) trivial ?_
        (conv => whnf); refine VC.fa fl76_1 ?_
        (conv => whnf); refine ld1 (v := .int .i64 a.start) ct3 (by rw [hp7.cell]; rfl) trivial ?_
        (conv => whnf); refine pures (nhas_p (hncells.eq (u7.old nb hnb))) fun H8 ha8 => ?_
        have st8 := st7.call ha8
        have u8 := u7.call ha8
        cases hst : a.has a.start with
        | false =>
          have e : lstS (begS a) = [] := by
            rw [lstS_uniq (X := begS a) (l := []) (has_rng (begS_has a)) List.Pairwise.nil fun q => ⟨fun h => (by cases h), fun h => by
              obtain ⟨r, ⟨-, h2⟩, -⟩ := h
              rw [hst] at h2; cases h2⟩]
          (conv => whnf)
          refine ⟨rfl, (), ?_, ha8⟩
          rw [e]
          rfl
        | true =>
          have hsr := NfM.has_iff.1 hst
          (conv => whnf); refine ld1 (v := .pointer (some ⟨nb, 0, none⟩)) ct168 (by rw [(u8.blk 0 rfl).cell]; rfl) trivial ?_
          (conv => whnf); refine VC.fa fl76_1 ?_
          (conv => whnf); refine ld1 (v := .int .i64 a.start) ct3 (by rw [(st8.blk 0 rfl).cell]; rfl) trivial ?_
          (conv => whnf); refine vbuild1 sl41 [.int .i64 a.start] rfl rfl (by decide) (by decide) ?_
          intro y H9 hy hs9 hb9 ha9
          have w9 : St H8 H9 [pS tIk 3 (some ⟨y, 0, none⟩) 1 1 [a.start]] := (St.nil H8).new (T := tIk) (n := 1) (xs := [a.start]) hy hs9 hb9 ha9 (Ty.reps_one ⟨rfl, kint ⟨hsr.1, by omega⟩⟩) rfl (by unfold maxLen; omega)
          (conv => whnf); refine VCall.mk (close_c (X := [a.start]) w9 (fun k hk => hk) ((hnv6.frame ha8).mono fun k hk => old_lt ha8 hk) (fun q hq => by rw [List.mem_singleton] at hq; subst hq; exact hst) (by simp only [List.length_cons, List.length_nil]; omega) hl (hpow3.agr (u8.old))) ?_
          rintro _ H10 ⟨rfl, ha10⟩
          have e : (fun q => q ∈ [a.start]) = fun q => q = a.start ∧ a.has a.start = true := funext fun q => propext (by simp [hst])
          (conv => whnf)
          refine ⟨rfl, (), ?_, ha8.trans (ha10.mono fun k hk => old_lt ha8 hk)⟩
          rw [e]
          rfl
      · rintro ⟨⟩ H8 junk8 ha8
        have st8 := st7.call ha8
        have u8 := u7.call ha8
        have hcs8 : SlD tSet (Old H8) H8 a5 c5 (setsA a) := u8.view 1 rfl
        (conv => whnf); refine VCall.mk (clsAtoms_c (fun k hk => hk) hcs8 (Nat.le_trans hTl hl)) ?_
        rintro _ H9 ⟨ha9, ca, cc, rfl, hat⟩
        have st9 := st8.call ha9
        have u9 := u8.call ha9
        have hnv9 : NetV (Old H9) H9 (.pointer (some ⟨nb, 0, none⟩)) a := (hnv0.frame u9.old).mono fun k hk => u9.up hk
        (conv => whnf); refine VCall.mk (explore_c (S := Old H9) (l0 := lstS (begS a)) (fun k hk => hk) (u9.in_ 0 rfl rfl).2 ((u9.blk 0 rfl).cells fun j v hv => by rw [Nat.zero_add]; exact hv) hnv9 (st9.in_ 0 rfl rfl).2 ((st9.blk 0 rfl).cells fun j v hv => by rw [Nat.zero_add]; exact hv) hl (hpow.agr st9.old) hat (reps_len _) hbeg (lstS_len _) hb1 hb2) ?_
        rintro r H10 ⟨ha10, hres⟩
        have st10 := st9.call ha10
        change match detF budget (stepA a) (repsM (setsA a)) (lstS (begS a)) with | none => _ | some (F, rows) => _ at hres
        cases hd : detF budget (stepA a) (repsM (setsA a)) (lstS (begS a)) with
        | none =>
          rw [hd] at hres
          simp only at hres
          subst hres
          (conv => whnf)
          refine ⟨st10.old, ?_⟩
          rw [hd]
        | some q =>
          obtain ⟨F, rows⟩ := q
          rw [hd] at hres
          obtain ⟨v, rfl, hv⟩ := hres
          (conv => whnf)
          refine ⟨st10.old, ?_⟩
          rw [hd]
          exact ⟨v, rfl, hv.mono fun k hk => ⟨Nat.le_trans (old_size st9.old) hk.1, hk.2⟩⟩
end Go.Proofs.YtfbghcpdinlmcaaGreatDoor
/- Copies of a table's parts: the laws' cells, the document's Rows. -/
set_option linter.unusedVariables false
set_option linter.unusedSimpArgs false
set_option maxRecDepth 100000
namespace Go.Proofs.YtfbghcpdinlmcaaGreatDoor
open Go.VC
attribute [local irreducible] mRun

end Go.Proofs.YtfbghcpdinlmcaaGreatDoor
/- The document's sets, tables: From, Sets, Sound, Whole. -/
set_option linter.unusedVariables false
set_option linter.unusedSimpArgs false
set_option maxRecDepth 100000
namespace Go.Proofs.YtfbghcpdinlmcaaGreatDoor
open Go.VC
attribute [local irreducible] mRun

end Go.Proofs.YtfbghcpdinlmcaaGreatDoor

/- The document's Sets, Sound and Whole. -/
set_option linter.unusedVariables false
set_option linter.unusedSimpArgs false
set_option maxRecDepth 100000
namespace Go.Proofs.YtfbghcpdinlmcaaGreatDoor
open Go.VC
attribute [local irreducible] mRun

/-! ### the plain law -/
def cnt (cells : List (BitVec 256)) (b : Nat) : Nat := (cells.filter fun x => x.getLsbD b).length
def ind (x : BitVec 256) (b : Nat) : Nat := if x.getLsbD b then 1 else 0
theorem cnt_cons (c : BitVec 256) (cs : List (BitVec 256)) (b : Nat) : cnt (c :: cs) b = ind c b + cnt cs b := by
  unfold cnt ind
  rw [List.filter_cons]
  split <;> simp <;> omega
theorem and_zero {a c : BitVec 256} : a &&& c = 0#256 ↔ ∀ b, b < 256 → ind a b + ind c b ≤ 1 := by
  constructor
  · intro h b hb
    have h1 : (a &&& c).getLsbD b = false := by rw [h]; simp
    rw [BitVec.getLsbD_and] at h1
    unfold ind
    cases ha : a.getLsbD b <;> cases hc : c.getLsbD b <;> simp_all
  · intro h
    apply BitVec.eq_of_getLsbD_eq
    intro b hb
    have h1 := h b hb
    rw [BitVec.getLsbD_and]
    unfold ind at h1
    cases ha : a.getLsbD b <;> cases hc : c.getLsbD b <;> simp_all
theorem ind_or {a c : BitVec 256} (h : a &&& c = 0#256) {b : Nat} (hb : b < 256) : ind (a ||| c) b = ind a b + ind c b := by
  have h1 := and_zero.1 h b hb
  unfold ind at h1 ⊢
  rw [BitVec.getLsbD_or]
  cases ha : a.getLsbD b <;> cases hc : c.getLsbD b <;> simp_all
theorem disjGo_some : ∀ (cs : List (BitVec 256)) (all : BitVec 256), (∃ x, disjGo all cs = some x) ↔ ∀ b, b < 256 → ind all b + cnt cs b ≤ 1
  | [], all => by
    simp only [disjGo, cnt, List.filter_nil, List.length_nil]
    refine ⟨fun _ b _ => ?_, fun _ => ⟨_, rfl⟩⟩
    unfold ind
    split <;> omega
  | c :: cs, all => by
    simp only [disjGo]
    split
    · rename_i h
      rw [disjGo_some cs (all ||| c)]
      constructor
      · intro h1 b hb
        have := h1 b hb
        rw [ind_or h hb] at this
        rw [cnt_cons]; omega
      · intro h1 b hb
        have := h1 b hb
        rw [cnt_cons] at this
        rw [ind_or h hb]; omega
    · rename_i h
      refine ⟨fun ⟨x, hx⟩ => (by cases hx), fun h1 => absurd (and_zero.2 fun b hb => ?_) h⟩
      have := h1 b hb
      rw [cnt_cons] at this
      omega
theorem cnt_pos {cs : List (BitVec 256)} {b : Nat} : (cs.any fun c => c.getLsbD b) = true ↔ 1 ≤ cnt cs b := by
  unfold cnt
  rw [List.any_eq_true]
  constructor
  · rintro ⟨x, hx, hb⟩
    exact List.length_pos_of_mem (List.mem_filter.2 ⟨hx, hb⟩)
  · intro h
    obtain ⟨x, hx⟩ := List.exists_mem_of_length_pos h
    exact ⟨x, (List.mem_filter.1 hx).1, (List.mem_filter.1 hx).2⟩
theorem soundB_iff {cells : List (BitVec 256)} {next : List (List Int)} {fl : Nat} : soundB cells next fl = true ↔ (1 ≤ next.length ∧ next.length ≤ 65536 ∧ next.length = fl) ∧ (∀ b, b < 256 → cnt cells b = 1) ∧ ∀ row ∈ next, rowOk next.length cells.length row = true := by
  have hz : ∀ b, ind 0#256 b = 0 := fun b => by simp [ind]
  constructor
  · intro h
    have hr := soundB_rows h
    unfold soundB at h
    split at h
    · cases h
    · rename_i all hall
      simp only [Bool.and_eq_true, beq_iff_eq, decide_eq_true_eq, List.all_eq_true] at h
      refine ⟨⟨hr.1, hr.2.1, hr.2.2.1⟩, fun b hb => ?_, h.2⟩
      have h1 := (disjGo_some cells 0#256).1 ⟨all, hall⟩ b hb
      rw [hz] at h1
      have h2 := disjGo_bits hall b
      rw [h.1.1.1.1, BitVec.getLsbD_allOnes] at h2
      simp only [hb, decide_true, BitVec.getLsbD_zero, Bool.false_or] at h2
      have h3 := cnt_pos.1 h2.symm
      omega
  · rintro ⟨⟨h1, h2, h3⟩, h4, h5⟩
    obtain ⟨all, hall⟩ := (disjGo_some cells 0#256).2 fun b hb => by rw [hz, h4 b hb]; omega
    unfold soundB
    rw [hall]
    simp only [Bool.and_eq_true, beq_iff_eq, decide_eq_true_eq, List.all_eq_true]
    refine ⟨⟨⟨⟨BitVec.eq_of_getLsbD_eq fun b hb => ?_, h1⟩, h2⟩, h3⟩, h5⟩
    rw [disjGo_bits hall b, BitVec.getLsbD_allOnes, cnt_pos.2 (by rw [h4 b hb]; omega)]
    simp [hb]
/-! ### the walks -/
end Go.Proofs.YtfbghcpdinlmcaaGreatDoor

/- The document's Atoms. -/
set_option linter.unusedVariables false
set_option linter.unusedSimpArgs false
set_option maxRecDepth 100000
namespace Go.Proofs.YtfbghcpdinlmcaaGreatDoor
open Go.VC
attribute [local irreducible] mRun

/-! ### the plain run -/
def sigEq (cells : List (BitVec 256)) (a b : Nat) : Bool := cells.all fun c => c.getLsbD a == c.getLsbD b
/-- The least bytes of the atoms so far, the place of each byte so far. -/
def atRun (cells : List (BitVec 256)) : Nat → List Nat × List Nat
  | 0 => ([], [])
  | b + 1 => match (atRun cells b).1.findIdx? fun g => sigEq cells b g with
    | some k => ((atRun cells b).1, (atRun cells b).2 ++ [k])
    | none => ((atRun cells b).1 ++ [b], (atRun cells b).2 ++ [(atRun cells b).1.length])
def atSet (ps : List Nat) (k : Nat) (b : Nat) : Bool := ps[b]? == some k
structure AtOk (cells : List (BitVec 256)) (b : Nat) (f ps : List Nat) : Prop where
  plen : ps.length = b
  flen : f.length ≤ b
  lt : ∀ p ∈ ps, p < f.length
  first : ∀ (k g : Nat), f[k]? = some g → g < b ∧ ps[g]? = some k
  sig : ∀ (i p g : Nat), ps[i]? = some p → f[p]? = some g → sigEq cells i g = true ∧ g ≤ i
theorem sigEq_refl (cells : List (BitVec 256)) (a : Nat) : sigEq cells a a = true := by simp [sigEq]
end Go.Proofs.YtfbghcpdinlmcaaGreatDoor

/- The document's Atoms: the walk. -/
set_option linter.unusedVariables false
set_option linter.unusedSimpArgs false
set_option maxRecDepth 100000
namespace Go.Proofs.YtfbghcpdinlmcaaGreatDoor
open Go.VC
attribute [local irreducible] mRun

end Go.Proofs.YtfbghcpdinlmcaaGreatDoor

/- The document's automata in memory; Parted. -/
set_option linter.unusedVariables false
set_option linter.unusedSimpArgs false
set_option maxRecDepth 100000
namespace Go.Proofs.YtfbghcpdinlmcaaGreatDoor
open Go.VC
attribute [local irreducible] mRun atRun

def dfaL (cell : List Int) (rv nv fv : Value) : List Value := cell.map (Value.int .i64) ++ [rv, nv, fv]
section
variable {cell : List Int} {rv nv fv v : Value}
end
/-! ### the cells so far -/
end Go.Proofs.YtfbghcpdinlmcaaGreatDoor
/- The law DfaLives: its walk. -/
set_option linter.unusedVariables false
set_option linter.unusedSimpArgs false
set_option maxRecDepth 100000
namespace Go.Proofs.YtfbghcpdinlmcaaGreatDoor
open Go.VC
attribute [local irreducible] mRun

def autoOf (cells : List (BitVec 256)) (next : List (List Int)) (final : List Bool) : Option AM := if soundB cells next final.length then some (madeM cells next final) else none
/-- What a table that is handed in says of memory. -/
structure TabIn (S : Nat → Prop) (H : Heap) (v : Value) (cells : List (BitVec 256)) (next : List (List Int)) (final : List Bool) : Prop where
  lt : ∀ k, S k → k < H.size
  rep : ∃ ca na fa cc nc fc, v = .agg #[.slice ca cells.length cc, .slice na next.length nc, .slice fa final.length fc] ∧ SlD tSet S H ca cc cells ∧ SlD tRows S H na nc next ∧ SlD tBool S H fa fc final
  cn : cells.length ≤ 1048576
  nn : next.length ≤ 1048576
  rn : ∀ row ∈ next, row.length ≤ 1048576
  fn : final.length ≤ 1048576
/-! ### the plain law -/
theorem runM_congr {o : Option AM} {s t : ByteArray} {k : Nat} (h : s.data.toList.take k = t.data.toList.take k) : runM o s k = runM o t k := by unfold runM; rw [h]
theorem bytes_list (s t : ByteArray) : (s ++ t).data.toList = s.data.toList ++ t.data.toList := by simp
theorem runM_cat {o : Option AM} (s t : ByteArray) {k : Nat} (h : k ≤ s.size) : runM o (s ++ t) k = runM o s k := by
  apply runM_congr
  rw [bytes_list, List.take_append_of_le_length (by simpa using h)]
section
open Classical
theorem alive_step {A : AM} (hok : A.Ok) {q : Int} {b : Nat} (h0 : 0 ≤ q) (h1 : q < A.next.length) (hb : b < 256) (h : aliveM (some A) (stepM (some A) q b) = true) : aliveM (some A) q = true := by
  obtain ⟨n, rfl⟩ := Int.eq_ofNat_of_zero_le h0
  obtain ⟨row, hrow⟩ := get_some (l := A.next) (k := n) (by omega)
  obtain ⟨c, hc⟩ := get_some (l := A.cell) (k := b) (by rw [hok.cell]; exact hb)
  have hrl := hok.rows row (List.mem_of_getElem? hrow)
  have hcp := hok.places c (List.mem_of_getElem? hc)
  obtain ⟨t, ht⟩ := get_some (l := row) (k := c) (by omega)
  obtain ⟨t', rfl⟩ := Int.eq_ofNat_of_zero_le (hrl.2 t (List.mem_of_getElem? ht)).1
  have hst : stepM (some A) n b = (t' : Int) := by
    unfold stepM
    rw [if_neg (by simp [stN]; omega)]
    simp only [Int.toNat_natCast, hrow, List.getD_eq_getElem?_getD, hc, Option.getD_some, ht]
  rw [hst] at h
  simp only [aliveM, decide_eq_true_eq, Int.toNat_natCast] at h ⊢
  exact .step hrow (List.mem_of_getElem? ht) h
theorem alive_final {A : AM} {q : Int} (h : finM (some A) q = true) : aliveM (some A) q = true := by
  simp only [finM, Bool.and_eq_true, decide_eq_true_eq] at h
  simp only [aliveM, decide_eq_true_eq]
  refine .fin ?_
  cases hf : A.final[q.toNat]? with
  | none => rw [hf] at h; simp at h
  | some f => rw [hf] at h; simp at h; rw [h.2]
theorem acc_alive {A : AM} (hok : A.Ok) {s : ByteArray} (h : acceptsM (some A) s = true) : ∀ k, k ≤ s.size → aliveM (some A) (runM (some A) s k) = true := by
  have key : ∀ j, j ≤ s.size → aliveM (some A) (runM (some A) s (s.size - j)) = true := by
    intro j
    induction j with
    | zero => intro _; rw [Nat.sub_zero]; exact alive_final h
    | succ j ih =>
      intro hj
      have h1 := ih (by omega)
      obtain ⟨b, hb⟩ := get_byte (s := s) (k := s.size - (j + 1)) (by omega)
      rw [show s.size - j = s.size - (j + 1) + 1 by omega, runM_succ hb] at h1
      obtain ⟨h2, h3⟩ := runM_range hok s (s.size - (j + 1)) (by omega)
      exact alive_step hok h2 h3 (UInt8.toNat_lt b) h1
  intro k hk
  have := key (s.size - k) (by omega)
  rwa [show s.size - (s.size - k) = k by omega] at this
end
theorem liveM_some {o : Option AM} {s : ByteArray} {n : Nat} (h : aliveM o 0 = true) (hn : n < s.size) (h1 : aliveM o (runM o s (n + 1)) = false) (h2 : ∀ i, i < n → aliveM o (runM o s (i + 1)) = true) : liveM o s = n := by
  have h3 : ((List.range s.size).find? fun i => !aliveM o (runM o s (i + 1))) = some n := by
    rw [List.find?_range_eq_some]
    exact ⟨by simp [h1], by simp; omega, fun j hj => by simp [h2 j hj]⟩
  simp only [liveM, h, if_true, h3, Option.getD_some]
end Go.Proofs.YtfbghcpdinlmcaaGreatDoor
/- The document's automata as data; its New. -/
set_option linter.unusedVariables false
set_option linter.unusedSimpArgs false
set_option maxRecDepth 100000
namespace Go.Proofs.YtfbghcpdinlmcaaGreatDoor
open Go.VC
attribute [local irreducible] mRun atRun

structure DM where
  cell : List Int
  reps : List Int
  next : List (List Int)
  final : List Bool
structure DfaV (S : Nat → Prop) (H : Heap) (v : Value) (D : DM) : Prop where
  len : D.cell.length = 256
  rep : ∃ ra rc na nc fa fc, v = .agg (dfaL D.cell (.slice ra D.reps.length rc) (.slice na D.next.length nc) (.slice fa D.final.length fc)).toArray ∧ SlD tI S H ra rc D.reps ∧ SlD tRows S H na nc D.next ∧ SlD tBool S H fa fc D.final
end Go.Proofs.YtfbghcpdinlmcaaGreatDoor

/- The document's None, Whole, Made, Step, IsFinal, Accepts. -/
set_option linter.unusedVariables false
set_option linter.unusedSimpArgs false
set_option maxRecDepth 100000
namespace Go.Proofs.YtfbghcpdinlmcaaGreatDoor
open Go.VC
attribute [local irreducible] mRun atRun

end Go.Proofs.YtfbghcpdinlmcaaGreatDoor

/- The document's Step, IsFinal, Accepts, Useful, Live. -/
set_option linter.unusedVariables false
set_option linter.unusedSimpArgs false
set_option maxRecDepth 100000
namespace Go.Proofs.YtfbghcpdinlmcaaGreatDoor
open Go.VC
attribute [local irreducible] mRun atRun

structure DM.Ok (D : DM) : Prop where
  n1 : 1 ≤ D.next.length
  n2 : D.next.length ≤ 65536
  fl : D.final.length = D.next.length
  cell : D.cell.length = 256
  rows : ∀ row ∈ D.next, row.length ≤ 256 ∧ (∀ c ∈ D.cell, 0 ≤ c ∧ c < (row.length : Int)) ∧ ∀ t ∈ row, 0 ≤ t ∧ t < (D.next.length : Int)
def stepD (D : DM) (q : Int) (b : Nat) : Int := if q < 0 ∨ (D.next.length : Int) ≤ q then -1 else ((D.next[q.toNat]?).getD []).getD (D.cell.getD b 0).toNat 0
def finD (D : DM) (q : Int) : Bool := decide (0 ≤ q) && (D.final[q.toNat]?).getD false
end Go.Proofs.YtfbghcpdinlmcaaGreatDoor

/- The document's Useful and Live. -/
set_option linter.unusedVariables false
set_option linter.unusedSimpArgs false
set_option maxRecDepth 100000
namespace Go.Proofs.YtfbghcpdinlmcaaGreatDoor
open Go.VC
attribute [local irreducible] mRun atRun

/-- What is marked so far. -/
structure MkOk (D : DM) (u : List Bool) : Prop where
  len : u.length = D.next.length
  live : ∀ q : Nat, u[q]? = some true → LiveT D.next D.final q
  fin : ∀ q : Nat, D.final[q]? = some true → u[q]? = some true
def Shut (D : DM) (u : List Bool) (q : Nat) : Prop := u[q]? = some true ∨ ∀ (row : List Int) (t : Nat), D.next[q]? = some row → (t : Int) ∈ row → u[t]? ≠ some true
end Go.Proofs.YtfbghcpdinlmcaaGreatDoor

/- The document's Live; both automata of a table step alike. -/
set_option linter.unusedVariables false
set_option linter.unusedSimpArgs false
set_option maxRecDepth 100000
namespace Go.Proofs.YtfbghcpdinlmcaaGreatDoor
open Go.VC
attribute [local irreducible] mRun atRun

open Classical in
noncomputable def aliveD (D : DM) (q : Int) : Bool := decide (LiveT D.next D.final q.toNat)
end Go.Proofs.YtfbghcpdinlmcaaGreatDoor

/- Tables in memory: boxed and loaded again. -/
set_option linter.unusedVariables false
set_option linter.unusedSimpArgs false
namespace Go.Proofs.YtfbghcpdinlmcaaGreatDoor
open Go.VC
section
variable {S : Nat → Prop} {H : Heap} {v : Value} {cells : List (BitVec 256)} {next : List (List Int)} {final : List Bool}
end
end Go.Proofs.YtfbghcpdinlmcaaGreatDoor
/- Both automata of a table step alike. -/
set_option linter.unusedVariables false
set_option linter.unusedSimpArgs false
set_option maxRecDepth 100000
namespace Go.Proofs.YtfbghcpdinlmcaaGreatDoor
open Go.VC

/-! ### merging, once more -/
structure MOk2 (next : List (List Int)) (cells : List (BitVec 256)) (b : Nat) (st : MS) : Prop where
  at_ : ∀ (i p : Nat), st.cell[i]? = some p → ∃ c, st.cols[p]? = some c ∧ alikeB next c (cellOf cells i) = true
  some_ : ∀ p, p < st.cols.length → ∃ i, i < b ∧ st.cell[i]? = some p
theorem alikeB_refl (next : List (List Int)) (c : Nat) : alikeB next c c = true := by simp [alikeB]
theorem mRun_ok2 {next : List (List Int)} {cells : List (BitVec 256)} {sp : Nat → BitVec 256} (hc : ∀ b, b < 256 → cellOf cells b < cells.length) : ∀ b, b ≤ 256 → MOk2 next cells b (mRun next cells sp b)
  | 0, _ => ⟨(fun i p h => by simp [mRun] at h), (fun p h => by simp [mRun] at h)⟩
  | b + 1, hb => by
    have ih := mRun_ok2 (next := next) (sp := sp) hc b (by omega)
    have ho := mRun_ok (next := next) (sp := sp) hc b (by omega)
    unfold mRun mStep mNew
    cases hf : mFind next (mRun next cells sp b).cols (cellOf cells b) with
    | some k =>
      unfold mFind at hf
      obtain ⟨hk, hal, _⟩ := List.findIdx?_eq_some_iff_getElem.1 hf
      refine ⟨fun i p h => ?_, fun p hp => ?_⟩
      · simp only at h ⊢
        by_cases hib : i < b
        · rw [List.getElem?_append_left (by rw [ho.cell]; exact hib)] at h
          exact ih.at_ i p h
        · rw [List.getElem?_append_right (by rw [ho.cell]; omega), ho.cell] at h
          have h0 := (List.getElem?_eq_some_iff.1 h).1
          simp only [List.length_singleton] at h0
          rw [show i - b = 0 by omega, List.getElem?_cons_zero] at h
          cases h
          rw [show i = b by omega]
          exact ⟨_, List.getElem?_eq_getElem hk, hal⟩
      · simp only at hp ⊢
        obtain ⟨i, h1, h2⟩ := ih.some_ p hp
        exact ⟨i, by omega, by rw [List.getElem?_append_left (by rw [ho.cell]; exact h1)]; exact h2⟩
    | none =>
      refine ⟨fun i p h => ?_, fun p hp => ?_⟩
      · simp only at h ⊢
        by_cases hib : i < b
        · rw [List.getElem?_append_left (by rw [ho.cell]; exact hib)] at h
          obtain ⟨c, h1, h2⟩ := ih.at_ i p h
          exact ⟨c, by rw [List.getElem?_append_left (List.getElem?_eq_some_iff.1 h1).1]; exact h1, h2⟩
        · rw [List.getElem?_append_right (by rw [ho.cell]; omega), ho.cell] at h
          have h0 := (List.getElem?_eq_some_iff.1 h).1
          simp only [List.length_singleton] at h0
          rw [show i - b = 0 by omega, List.getElem?_cons_zero] at h
          cases h
          rw [show i = b by omega]
          exact ⟨cellOf cells b, by simp, alikeB_refl _ _⟩
      · simp only [List.length_append, List.length_singleton] at hp ⊢
        by_cases hpl : p < (mRun next cells sp b).cols.length
        · obtain ⟨i, h1, h2⟩ := ih.some_ p hpl
          exact ⟨i, by omega, by rw [List.getElem?_append_left (by rw [ho.cell]; exact h1)]; exact h2⟩
        · exact ⟨b, by omega, by rw [List.getElem?_append_right (by rw [ho.cell]; omega), ho.cell, Nat.sub_self, List.getElem?_cons_zero]; congr 1; omega⟩
attribute [local irreducible] mRun atRun
theorem alikeB_row {next : List (List Int)} {c d : Nat} {row : List Int} (h : alikeB next c d = true) (hr : row ∈ next) : row[c]? = row[d]? := by
  unfold alikeB at h
  simp only [Bool.or_eq_true, beq_iff_eq, List.all_eq_true] at h
  rcases h with h | h
  · rw [h]
  · exact h row hr
/-! ### one step -/
section
variable {cells : List (BitVec 256)} {next : List (List Int)} {final : List Bool} (hs : soundB cells next final.length = true)
include hs
theorem madeM_row {q b : Nat} {row : List Int} (hq : next[q]? = some row) (hb : b < 256) : ∃ rA p, (madeM cells next final).next[q]? = some rA ∧ (madeM cells next final).cell[b]? = some p ∧ rA[p]? = some (row.getD (cellOf cells b) 0) := by
  have hc := fun b hb => (soundB_cells hs (b := b) hb).1
  have ho := mRun_ok (next := next) (sp := fun b => spanS b b) hc 256 (Nat.le_refl _)
  have h2 := mRun_ok2 (next := next) (sp := fun b => spanS b b) hc 256 (Nat.le_refl _)
  obtain ⟨p, hp⟩ := get_some (l := (mRun next cells (fun b => spanS b b) 256).cell) (k := b) (by rw [ho.cell]; exact hb)
  obtain ⟨c, hcol, hal⟩ := h2.at_ b p hp
  refine ⟨rowOf (mRun next cells (fun b => spanS b b) 256).cols row, p, by simp only [madeM]; rw [List.getElem?_map, hq]; rfl, hp, ?_⟩
  unfold rowOf
  rw [List.getElem?_map, hcol]
  simp only [Option.map_some, Option.some.injEq]
  rw [List.getD_eq_getElem?_getD, List.getD_eq_getElem?_getD, alikeB_row hal (List.mem_of_getElem? hq)]
theorem madeM_step {q b : Nat} {row : List Int} (hq : next[q]? = some row) (hb : b < 256) : stepM (some (madeM cells next final)) (q : Int) b = row.getD (cellOf cells b) 0 := by
  obtain ⟨rA, p, h1, h2, h3⟩ := madeM_row hs hq hb
  have := (List.getElem?_eq_some_iff.1 h1).1
  unfold stepM
  rw [if_neg (by simp [stN]; omega)]
  simp only [Int.toNat_natCast, h1, List.getD_eq_getElem?_getD, h2, Option.getD_some, h3]
end
/-! ### both -/
section
variable (cells : List (BitVec 256)) (next : List (List Int)) (final : List Bool)
end

end Go.Proofs.YtfbghcpdinlmcaaGreatDoor
/- The law DfaTables: its walk. -/
set_option linter.unusedVariables false
set_option linter.unusedSimpArgs false
set_option maxRecDepth 100000
namespace Go.Proofs.YtfbghcpdinlmcaaGreatDoor
open Go.VC
attribute [local irreducible] mRun atRun

end Go.Proofs.YtfbghcpdinlmcaaGreatDoor
/- same: is the automaton the document's? -/
set_option linter.unusedVariables false
set_option linter.unusedSimpArgs false
set_option maxRecDepth 100000
namespace Go.Proofs.YtfbghcpdinlmcaaGreatDoor
open Go.VC
attribute [local irreducible] mRun atRun

end Go.Proofs.YtfbghcpdinlmcaaGreatDoor
/- The coarsest parting by the automaton alone: the plain run. -/
set_option linter.unusedVariables false
set_option linter.unusedSimpArgs false
set_option maxRecDepth 100000
namespace Go.Proofs.YtfbghcpdinlmcaaGreatDoor
open Go.VC

/-- The least bytes of the parts so far, the place of each byte so far. -/
def gRun (sim : Nat → Nat → Bool) : Nat → List Nat × List Nat
  | 0 => ([], [])
  | b + 1 => match (gRun sim b).1.findIdx? fun g => sim b g with
    | some k => ((gRun sim b).1, (gRun sim b).2 ++ [k])
    | none => ((gRun sim b).1 ++ [b], (gRun sim b).2 ++ [(gRun sim b).1.length])
structure GrOk (sim : Nat → Nat → Bool) (b : Nat) (f ps : List Nat) : Prop where
  plen : ps.length = b
  flen : f.length ≤ b
  lt : ∀ p ∈ ps, p < f.length
  first : ∀ (k g : Nat), f[k]? = some g → g < b ∧ ps[g]? = some k
  sig : ∀ (i p g : Nat), ps[i]? = some p → f[p]? = some g → sim i g = true ∧ g ≤ i
theorem gRun_ok {sim : Nat → Nat → Bool} (hr : ∀ a, sim a a = true) : ∀ b, GrOk sim b (gRun sim b).1 (gRun sim b).2
  | 0 => ⟨rfl, Nat.le_refl _, (fun p h => by cases h), (fun k g h => by cases h), (fun i p g h => by cases h)⟩
  | b + 1 => by
    have ih := gRun_ok hr b
    unfold gRun
    split
    · rename_i k hk
      rw [List.findIdx?_eq_some_iff_getElem] at hk
      obtain ⟨hlt, hsig, _⟩ := hk
      refine ⟨by simp [ih.plen], by have := ih.flen; simp only; omega, fun p hp => ?_, fun k' g hg => ?_, fun i p g hi hg => ?_⟩
      · rcases List.mem_append.1 hp with h | h
        · exact ih.lt p h
        · rw [List.mem_singleton] at h; subst h; exact hlt
      · obtain ⟨h1, h2⟩ := ih.first k' g hg
        exact ⟨by omega, by simp only; rw [List.getElem?_append_left (by rw [ih.plen]; exact h1)]; exact h2⟩
      · simp only at hi hg
        by_cases hib : i < b
        · rw [List.getElem?_append_left (by rw [ih.plen]; exact hib)] at hi
          exact ih.sig i p g hi hg
        · rw [List.getElem?_append_right (by rw [ih.plen]; omega), ih.plen] at hi
          have hi0 : i - b = 0 := by
            have := (List.getElem?_eq_some_iff.1 hi).1
            simp only [List.length_singleton] at this
            omega
          rw [hi0, List.getElem?_cons_zero] at hi
          cases hi
          rw [List.getElem?_eq_getElem hlt] at hg
          cases hg
          have hib' : i = b := by omega
          subst hib'
          exact ⟨hsig, by have := (ih.first _ _ (List.getElem?_eq_getElem hlt)).1; omega⟩
    · rename_i hk
      refine ⟨by simp [ih.plen], by have := ih.flen; simp; omega, fun p hp => ?_, fun k' g hg => ?_, fun i p g hi hg => ?_⟩
      · simp only [List.length_append, List.length_singleton]
        rcases List.mem_append.1 hp with h | h
        · have := ih.lt p h; omega
        · rw [List.mem_singleton] at h; subst h; omega
      · simp only at hg ⊢
        by_cases hkl : k' < (gRun sim b).1.length
        · rw [List.getElem?_append_left hkl] at hg
          obtain ⟨h1, h2⟩ := ih.first k' g hg
          exact ⟨by omega, by rw [List.getElem?_append_left (by rw [ih.plen]; exact h1)]; exact h2⟩
        · rw [List.getElem?_append_right (by omega)] at hg
          have h0 := (List.getElem?_eq_some_iff.1 hg).1
          simp only [List.length_singleton] at h0
          rw [show k' - (gRun sim b).1.length = 0 by omega, List.getElem?_cons_zero] at hg
          cases hg
          exact ⟨by omega, by rw [List.getElem?_append_right (by rw [ih.plen]; omega), ih.plen, Nat.sub_self, List.getElem?_cons_zero]; congr 1; omega⟩
      · simp only at hi hg
        by_cases hib : i < b
        · rw [List.getElem?_append_left (by rw [ih.plen]; exact hib)] at hi
          have hp := ih.lt p (List.mem_of_getElem? hi)
          rw [List.getElem?_append_left hp] at hg
          exact ih.sig i p g hi hg
        · rw [List.getElem?_append_right (by rw [ih.plen]; omega), ih.plen] at hi
          have hi0 : i - b = 0 := by
            have := (List.getElem?_eq_some_iff.1 hi).1
            simp only [List.length_singleton] at this
            omega
          rw [hi0, List.getElem?_cons_zero] at hi
          cases hi
          rw [List.getElem?_append_right (Nat.le_refl _), Nat.sub_self, List.getElem?_cons_zero] at hg
          cases hg
          have hib' : i = b := by omega
          subst hib'
          exact ⟨hr _, Nat.le_refl _⟩


theorem gRun_some {sim : Nat → Nat → Bool} {b k : Nat} (h : (gRun sim b).1.findIdx? (fun g => sim b g) = some k) : gRun sim (b + 1) = ((gRun sim b).1, (gRun sim b).2 ++ [k]) := by
  rw [gRun, h]
theorem gRun_none {sim : Nat → Nat → Bool} {b : Nat} (h : (gRun sim b).1.findIdx? (fun g => sim b g) = none) : gRun sim (b + 1) = ((gRun sim b).1 ++ [b], (gRun sim b).2 ++ [(gRun sim b).1.length]) := by
  rw [gRun, h]

/-! ### the same run as merge's -/
/-- What merge's sets hold. -/
theorem mRun_sets {next : List (List Int)} {cells : List (BitVec 256)} (hc : ∀ b, b < 256 → cellOf cells b < cells.length) : ∀ b, b ≤ 256 → ∀ (k : Nat) (x : BitVec 256), (mRun next cells (fun b => spanS b b) b).sets[k]? = some x → ∀ i, i < 256 → x.getLsbD i = atSet (mRun next cells (fun b => spanS b b) b).cell k i
  | 0, _ => fun k x h => by simp [mRun] at h
  | b + 1, hb => fun k x h i hi => by
    have ih := mRun_sets (next := next) hc b (by omega)
    have ho := mRun_ok (next := next) (sp := fun b => spanS b b) hc b (by omega)
    generalize hm : mRun next cells (fun b => spanS b b) b = st at *
    rw [mRun, hm] at h ⊢
    unfold mStep at h ⊢
    simp only at h ⊢
    generalize hr : mNew next st.cols st.sets (cellOf cells b) = r at *
    have hnew := mNew_ok (next := next) (f := cellOf cells b) ho.len ho.le ho.cols (hc b (by omega))
    rw [hr] at hnew
    have hp : r.2.2 < r.2.1.length := by omega
    -- the sets before the byte is put in
    have hold : ∀ (k : Nat) (y : BitVec 256), r.2.1[k]? = some y → y.getLsbD i = atSet st.cell k i := by
      intro k y hy
      unfold mNew at hr
      cases hf : mFind next st.cols (cellOf cells b) with
      | some j =>
        rw [hf] at hr
        subst hr
        exact ih k y hy i hi
      | none =>
        rw [hf] at hr
        subst hr
        simp only at hy
        by_cases hk : k < st.sets.length
        · rw [List.getElem?_append_left hk] at hy
          exact ih k y hy i hi
        · rw [List.getElem?_append_right (by omega)] at hy
          have h0 := (List.getElem?_eq_some_iff.1 hy).1
          simp only [List.length_singleton] at h0
          rw [show k - st.sets.length = 0 by omega, List.getElem?_cons_zero] at hy
          cases hy
          have : atSet st.cell k i = false := by
            unfold atSet
            cases hc' : st.cell[i]? with
            | none => rfl
            | some p =>
              have := ho.places p (List.mem_of_getElem? hc')
              have := ho.len
              simp; omega
          rw [this]; simp
    have hat : ∀ k, atSet (st.cell ++ [r.2.2]) k i = ((decide (i = b) && decide (k = r.2.2)) || atSet st.cell k i) := by
      intro k
      unfold atSet
      have hcl := ho.cell
      rcases Nat.lt_trichotomy i b with h | h | h
      · rw [List.getElem?_append_left (by omega), decide_eq_false (by omega)]; simp
      · subst h
        rw [List.getElem?_append_right (by omega), hcl, Nat.sub_self, List.getElem?_cons_zero, List.getElem?_eq_none (by omega)]
        by_cases hk : k = r.2.2 <;> simp [hk]
        exact fun h => hk h.symm
      · rw [List.getElem?_eq_none (by simp; omega), List.getElem?_eq_none (by omega), decide_eq_false (by omega)]; simp
    rw [hat]
    by_cases hk : k = r.2.2
    · subst hk
      rw [List.getElem?_set_self hp] at h
      cases h
      rw [BitVec.getLsbD_or, List.getD_eq_getElem?_getD, List.getElem?_eq_getElem hp, Option.getD_some, hold _ _ (List.getElem?_eq_getElem hp), spanS_bit b b i hi]
      have : (decide (b ≤ i) && decide (i ≤ b)) = decide (i = b) := by
        by_cases h : i = b
        · subst h; simp
        · rw [decide_eq_false h]
          rcases Nat.lt_or_ge i b with h1 | h1
          · rw [decide_eq_false (by omega)]; rfl
          · rw [decide_eq_false (show ¬ i ≤ b by omega)]; simp
      rw [this]
      simp [Bool.or_comm]
    · rw [List.getElem?_set_ne (Ne.symm hk)] at h
      rw [decide_eq_false hk, hold k x h]; simp
def simT (next : List (List Int)) (cells : List (BitVec 256)) (b g : Nat) : Bool := next.all fun row => row.getD (cellOf cells b) 0 == row.getD (cellOf cells g) 0
theorem alike_sim {cells : List (BitVec 256)} {next : List (List Int)} {fl : Nat} (hs : soundB cells next fl = true) {b g : Nat} (hb : b < 256) (hg : g < 256) : alikeB next (cellOf cells g) (cellOf cells b) = simT next cells b g := by
  obtain ⟨_, _, _, hrows⟩ := soundB_rows hs
  have h1 := (soundB_cells hs hb).1
  have h2 := (soundB_cells hs hg).1
  have key : ∀ row ∈ next, (row[cellOf cells g]? == row[cellOf cells b]?) = (row.getD (cellOf cells b) 0 == row.getD (cellOf cells g) 0) := by
    intro row hr
    have hl := (hrows row hr).1
    rw [List.getD_eq_getElem?_getD, List.getD_eq_getElem?_getD, List.getElem?_eq_getElem (by omega), List.getElem?_eq_getElem (by omega)]
    simp only [Option.getD_some]
    rw [Bool.eq_iff_iff]
    simp only [beq_iff_eq, Option.some.injEq]
    exact eq_comm
  unfold alikeB simT
  have hall : (next.all fun row => row[cellOf cells g]? == row[cellOf cells b]?) = next.all fun row => row.getD (cellOf cells b) 0 == row.getD (cellOf cells g) 0 := by
    rw [Bool.eq_iff_iff, List.all_eq_true, List.all_eq_true]
    constructor
    · intro h row hr; rw [← key row hr]; exact h row hr
    · intro h row hr; rw [key row hr]; exact h row hr
  rw [hall]
  by_cases he : cellOf cells g = cellOf cells b
  · rw [he]; simp
  · have : (cellOf cells g == cellOf cells b) = false := by simpa using he
    rw [this]; rfl
theorem simT_refl (next : List (List Int)) (cells : List (BitVec 256)) (a : Nat) : simT next cells a a = true := by simp [simT]
theorem findIdx_map {α β : Type} (f : α → β) (p : β → Bool) : ∀ l : List α, (l.map f).findIdx? p = l.findIdx? fun a => p (f a)
  | [] => rfl
  | a :: l => by
    rw [List.map_cons, List.findIdx?_cons, List.findIdx?_cons, findIdx_map f p l]
theorem findIdx_congr {α : Type} {p q : α → Bool} : ∀ {l : List α}, (∀ a ∈ l, p a = q a) → l.findIdx? p = l.findIdx? q
  | [], _ => rfl
  | a :: l, h => by
    rw [List.findIdx?_cons, List.findIdx?_cons, h a List.mem_cons_self, findIdx_congr fun x hx => h x (List.mem_cons_of_mem _ hx)]
theorem mRun_g {cells : List (BitVec 256)} {next : List (List Int)} {fl : Nat} (hs : soundB cells next fl = true) {sp : Nat → BitVec 256} : ∀ b, b ≤ 256 → (mRun next cells sp b).cols = (gRun (simT next cells) b).1.map (cellOf cells) ∧ (mRun next cells sp b).cell = (gRun (simT next cells) b).2
  | 0, _ => by simp [mRun, gRun]
  | b + 1, hb => by
    obtain ⟨h1, h2⟩ := mRun_g hs (sp := sp) b (by omega)
    have hok := gRun_ok (simT_refl next cells) b
    have hf : mFind next (mRun next cells sp b).cols (cellOf cells b) = (gRun (simT next cells) b).1.findIdx? fun g => simT next cells b g := by
      unfold mFind
      rw [h1, findIdx_map]
      exact findIdx_congr fun g hg => by
        obtain ⟨k, hk⟩ := List.getElem?_of_mem hg
        exact alike_sim hs (by omega) (by have := (hok.first k g hk).1; omega)
    unfold mRun mStep mNew
    rw [hf]
    cases hfi : (gRun (simT next cells) b).1.findIdx? fun g => simT next cells b g with
    | some k =>
      rw [gRun_some hfi]
      simp only
      exact ⟨h1, by rw [h2]⟩
    | none =>
      rw [gRun_none hfi]
      simp only
      exact ⟨by rw [h1, List.map_append]; rfl, by rw [h2, h1, List.length_map]⟩
attribute [local irreducible] mRun gRun
/-- What dfa.Cells tells of a table's automaton, by bytes. -/
theorem sets_of_g {cells : List (BitVec 256)} {next : List (List Int)} {final : List Bool} (hs : soundB cells next final.length = true) : (madeM cells next final).sets.length = (gRun (simT next cells) 256).1.length ∧
    ∀ (k : Nat) (x : BitVec 256), (madeM cells next final).sets[k]? = some x → ∀ i, i < 256 → x.getLsbD i = atSet (gRun (simT next cells) 256).2 k i := by
  have hc := fun b hb => (soundB_cells hs (b := b) hb).1
  obtain ⟨h1, h2⟩ := mRun_g hs (sp := fun b => spanS b b) 256 (Nat.le_refl _)
  have ho := mRun_ok (next := next) (sp := fun b => spanS b b) hc 256 (Nat.le_refl _)
  refine ⟨?_, fun k x hx i hi => ?_⟩
  · simp only [madeM]
    rw [← ho.len, h1, List.length_map]
  · rw [← h2]
    exact mRun_sets (next := next) hc 256 (Nat.le_refl _) k x hx i hi

end Go.Proofs.YtfbghcpdinlmcaaGreatDoor
/- The cells of a made automaton: a parting of the bytes, in the order of their least ones, that every step keeps to. -/
set_option linter.unusedVariables false
set_option linter.unusedSimpArgs false
set_option maxRecDepth 100000
namespace Go.Proofs.YtfbghcpdinlmcaaGreatDoor
open Go.VC
attribute [local irreducible] mRun gRun

structure CellsOk (o : Option AM) (ls : List Nat) : Prop where
  len : ls.length = (cellsM o).length
  up : ls.Pairwise (· < ·)
  least : ∀ (k : Nat) (c : BitVec 256), (cellsM o)[k]? = some c → ∃ l, ls[k]? = some l ∧ l < 256 ∧ (nextM c 0).1 = l ∧ c.getLsbD l = true
  keeps : ∀ (k : Nat) (c : BitVec 256) (l b : Nat), (cellsM o)[k]? = some c → ls[k]? = some l → b < 256 → c.getLsbD b = true → l ≤ b ∧ ∀ q : Int, 0 ≤ q → q < stN o → stepM o q b = stepM o q l
  cols : ∀ A, o = some A → ∀ k, k < A.sets.length → ∃ b, b < 256 ∧ A.cell[b]? = some k
  part : ∀ b, b < 256 → ∃ (k : Nat) (c : BitVec 256), (cellsM o)[k]? = some c ∧ c.getLsbD b = true ∧ ∀ (k' : Nat) (c' : BitVec 256), (cellsM o)[k']? = some c' → c'.getLsbD b = true → k' = k

theorem gRun_up {sim : Nat → Nat → Bool} (hr : ∀ a, sim a a = true) : ∀ b, (gRun sim b).1.Pairwise (· < ·)
  | 0 => by rw [gRun]; exact List.Pairwise.nil
  | b + 1 => by
    have ih := gRun_up hr b
    cases hf : (gRun sim b).1.findIdx? (fun g => sim b g) with
    | some k => rw [gRun_some hf]; exact ih
    | none =>
      rw [gRun_none hf]
      refine List.pairwise_append.2 ⟨ih, List.pairwise_singleton _ _, fun a ha c hc => ?_⟩
      rw [List.mem_singleton] at hc
      subst hc
      obtain ⟨k, hk⟩ := List.getElem?_of_mem ha
      exact ((gRun_ok hr c).first k a hk).1
theorem nextM_eq {c : BitVec 256} {l : Nat} (hl : l < 256) (h1 : c.getLsbD l = true) (h2 : ∀ b, b < l → c.getLsbD b = false) : (nextM c 0).1 = l := by
  have hf : ((List.range 256).find? fun b => decide (0 ≤ b) && c.getLsbD b) = some l := by
    rw [List.find?_range_eq_some]
    exact ⟨by simp [h1], by simpa using hl, fun j hj => by simp [h2 j hj]⟩
  unfold nextM
  rw [hf]
theorem cells_ok (cells : List (BitVec 256)) (next : List (List Int)) (final : List Bool) : ∃ ls, CellsOk (autoOf cells next final) ls := by
  unfold autoOf
  cases hs : soundB cells next final.length with
  | false =>
    refine ⟨[0], rfl, List.pairwise_singleton _ _, fun k c hc => ?_, fun k c l b hc hl hb hcb => ?_, fun A hb => ?_, fun b hb => ?_⟩
    · have hk : k = 0 := by have := (List.getElem?_eq_some_iff.1 hc).1; simpa [cellsM] using this
      subst hk
      have : c = BitVec.allOnes 256 := by simpa [cellsM] using hc.symm
      subst this
      exact ⟨0, rfl, by decide, nextM_eq (by decide) (by decide) (fun b hb => by omega), by decide⟩
    · have hk : k = 0 := by have := (List.getElem?_eq_some_iff.1 hc).1; simpa [cellsM] using this
      subst hk
      have : l = 0 := by simpa using hl.symm
      subst this
      refine ⟨Nat.zero_le _, fun q h0 h1 => ?_⟩
      simp only [Bool.false_eq_true, if_false] at h1 ⊢
      simp only [stN] at h1
      obtain rfl : q = 0 := by omega
      rfl
    · cases hb
    · refine ⟨0, BitVec.allOnes 256, rfl, ?_, fun k' c' h _ => ?_⟩
      · rw [BitVec.getLsbD_allOnes]; simp [hb]
      · have := (List.getElem?_eq_some_iff.1 h).1
        simpa [cellsM] using this
  | true =>
    simp only [if_true]
    obtain ⟨h1, h2⟩ := sets_of_g hs
    have hg := gRun_ok (simT_refl next cells) 256
    refine ⟨(gRun (simT next cells) 256).1, h1.symm, gRun_up (simT_refl next cells) 256, fun k c hc => ?_, fun k c l b hc hl hb hcb => ?_, fun A hA k hk => ?_, fun b hb => ?_⟩
    · have hk : k < (gRun (simT next cells) 256).1.length := by rw [← h1]; exact (List.getElem?_eq_some_iff.1 hc).1
      obtain ⟨g, hgk⟩ := get_some hk
      obtain ⟨g1, g2⟩ := hg.first k g hgk
      have hbit := h2 k c hc
      refine ⟨g, hgk, g1, nextM_eq g1 (by rw [hbit g g1]; simp [atSet, g2]) (fun b hb => ?_), by rw [hbit g g1]; simp [atSet, g2]⟩
      rw [hbit b (by omega)]
      unfold atSet
      rw [beq_eq_false_iff_ne]
      intro hp
      have := (hg.sig b k g hp hgk).2
      omega
    · rw [h2 k c hc b hb] at hcb
      have hp : (gRun (simT next cells) 256).2[b]? = some k := by simpa [atSet] using hcb
      obtain ⟨s1, s2⟩ := hg.sig b k l hp hl
      refine ⟨s2, fun q q0 q1 => ?_⟩
      obtain ⟨n, rfl⟩ := Int.eq_ofNat_of_zero_le q0
      have hl256 := (hg.first k l hl).1
      have hq : n < next.length := by simp only [stN, madeM, List.length_map] at q1; omega
      obtain ⟨row, hrow⟩ := get_some hq
      rw [madeM_step hs hrow hb, madeM_step hs hrow hl256]
      unfold simT at s1
      have := List.all_eq_true.1 s1 row (List.mem_of_getElem? hrow)
      simpa using this
    · cases hA
      obtain ⟨g, hgk⟩ := get_some (l := (gRun (simT next cells) 256).1) (k := k) (by rw [← h1]; exact hk)
      obtain ⟨g1, g2⟩ := hg.first k g hgk
      refine ⟨g, g1, ?_⟩
      have hm := (mRun_g hs (sp := fun b => spanS b b) 256 (Nat.le_refl _)).2
      simp only [madeM]
      rw [hm]; exact g2
    · obtain ⟨p, hp⟩ := get_some (l := (gRun (simT next cells) 256).2) (k := b) (by rw [hg.plen]; exact hb)
      have hpl := hg.lt p (List.mem_of_getElem? hp)
      obtain ⟨c, hc⟩ := get_some (l := (madeM cells next final).sets) (k := p) (by rw [h1]; exact hpl)
      refine ⟨p, c, hc, by rw [h2 p c hc b hb]; simp [atSet, hp], fun k' c' hc' hb' => ?_⟩
      rw [h2 k' c' hc' b hb] at hb'
      have : (gRun (simT next cells) 256).2[b]? = some k' := by simpa [atSet] using hb'
      rw [hp] at this
      exact (Option.some.inj this).symm
end Go.Proofs.YtfbghcpdinlmcaaGreatDoor
/- ambig.reps: the walk. -/
set_option linter.unusedVariables false
set_option linter.unusedSimpArgs false
set_option maxRecDepth 100000
namespace Go.VC
section
variable {α : Type} {T : Ty α} {e : TypeId} {a : Option Addr} {n cap : Nat} {xs : List α} {B : Nat → Prop} {H0 H : Heap} {ps : List Pc}
end
end Go.VC
namespace Go.Proofs.YtfbghcpdinlmcaaGreatDoor
open Go.VC
attribute [local irreducible] mRun gRun atRun
end Go.Proofs.YtfbghcpdinlmcaaGreatDoor
/- The nodes of ambig's graph: as keys of maps, in memory. -/
set_option linter.unusedVariables false
set_option linter.unusedSimpArgs false
set_option maxRecDepth 100000
namespace Go.Proofs.YtfbghcpdinlmcaaGreatDoor
open Go.VC

/-- A node: its stage, where its readers are. -/
structure Nd where
  s : Int
  x : Int
  y : Int
deriving DecidableEq
def Nd.Ok (n : Nd) : Prop := inK .i64 n.s ∧ inK .i64 n.x ∧ inK .i64 n.y
def ndV (n : Nd) : Value := .agg #[.int .i64 n.s, .int .i64 n.x, .int .i64 n.y]
def ndL (n : Nd) : List Value := [.int .i64 n.s, .int .i64 n.x, .int .i64 n.y]
/-- Nodes in memory. -/
def tNd : Ty Nd where
  size := 3
  rep _ _ cs n := cs = ndL n
  len h := by rw [h]; rfl
  frame h _ := h
  mono h _ := h
end Go.Proofs.YtfbghcpdinlmcaaGreatDoor
/- Graphs of nodes with ends: the least word that leads to an end; plain law. -/
set_option linter.unusedVariables false
set_option linter.unusedSimpArgs false
namespace Go.Proofs.YtfbghcpdinlmcaaGreatDoor

structure Gr where
  next : Nd → Nat → List Nd
  ends : Nd → Bool
/-- The word w leads from n to an end. -/
def Leads (g : Gr) : List Nat → Nd → Prop
  | [], n => g.ends n = true
  | b :: w, n => ∃ t, t ∈ g.next n b ∧ Leads g w t
/-- .. from some node of P. -/
def LeadsP (g : Gr) (P : Nd → Prop) (w : List Nat) : Prop := ∃ n, P n ∧ Leads g w n
/-- Words of one length: no later in order. -/
def lexL : List Nat → List Nat → Prop
  | a :: s, b :: t => a < b ∨ (a = b ∧ lexL s t)
  | _, _ => True
def bytes_ (w : List Nat) : Prop := ∀ b ∈ w, b < 256
/-- Of the words of k bytes that lead from P to an end w is the first. -/
def FirstOf (g : Gr) (P : Nd → Prop) (k : Nat) (w : List Nat) : Prop := w.length = k ∧ bytes_ w ∧ LeadsP g P w ∧ ∀ u, u.length = k → bytes_ u → LeadsP g P u → lexL w u
end Go.Proofs.YtfbghcpdinlmcaaGreatDoor

/- Graphs of nodes: how far it is to an end; plain law. -/
set_option linter.unusedVariables false
set_option linter.unusedSimpArgs false
namespace Go.Proofs.YtfbghcpdinlmcaaGreatDoor

/-- What can be reached from a by the bytes of by_. -/
inductive Reach (g : Gr) (by_ : List Nat) (a : Nd) : Nd → Prop
  | refl : Reach g by_ a a
  | step {n t : Nd} {b : Nat} (h : Reach g by_ a n) (hb : b ∈ by_) (ht : t ∈ g.next n b) : Reach g by_ a t
/-- The distances to an end, of all that can be reached. -/
structure DistOk (g : Gr) (by_ : List Nat) (a : Nd) (left : Nd → Option Nat) : Prop where
  ends : ∀ n, Reach g by_ a n → g.ends n = true → left n = some 0
  pred : ∀ n k, left n = some k → ∀ p b, Reach g by_ a p → b ∈ by_ → n ∈ g.next p b → ∃ j, j ≤ k + 1 ∧ left p = some j
  word : ∀ n k, left n = some k → Reach g by_ a n ∧ ∃ w, w.length = k ∧ (∀ b ∈ w, b ∈ by_) ∧ Leads g w n
section
variable {g : Gr} {by_ : List Nat} {a : Nd} {left : Nd → Option Nat}
variable (hby : ∀ c, c < 256 → ∃ r ∈ by_, r ≤ c ∧ ∀ n, g.next n r = g.next n c)
include hby
end
end Go.Proofs.YtfbghcpdinlmcaaGreatDoor

/- Distances to an end by a queue, from the ends back; plain law. -/
set_option linter.unusedVariables false
set_option linter.unusedSimpArgs false
namespace Go.Proofs.YtfbghcpdinlmcaaGreatDoor
open Go.VC
/-- What leads to n. -/
def PredsOk (g : Gr) (by_ : List Nat) (a n : Nd) (left : Nd → Option Nat) (k : Nat) : Prop := ∀ p b, Reach g by_ a p → b ∈ by_ → n ∈ g.next p b → ∃ j, j ≤ k + 1 ∧ left p = some j
/-- The queue, no element out; k is the least distance that it may still hold. -/
structure BInv (g : Gr) (by_ : List Nat) (a : Nd) (left : Nd → Option Nat) (todo : List Nd) (k : Nat) : Prop where
  ends : ∀ n, Reach g by_ a n → g.ends n = true → left n = some 0
  word : ∀ n j, left n = some j → Reach g by_ a n ∧ ∃ w, w.length = j ∧ (∀ b ∈ w, b ∈ by_) ∧ Leads g w n
  q : ∀ n ∈ todo, ∃ j, left n = some j ∧ k ≤ j
  up : ∀ n j, left n = some j → j ≤ k + 1
  sorted : todo.Pairwise fun n p => ∀ i j, left n = some i → left p = some j → i ≤ j
  done : ∀ n j, left n = some j → n ∉ todo → PredsOk g by_ a n left j
/-- .. element n, at distance k, is out; those that lead to it are gone through: what holds of d is done. -/
structure BMid (g : Gr) (by_ : List Nat) (a : Nd) (left : Nd → Option Nat) (todo : List Nd) (n : Nd) (k : Nat) (d : Nd → Prop) : Prop where
  ends : ∀ n, Reach g by_ a n → g.ends n = true → left n = some 0
  word : ∀ n j, left n = some j → Reach g by_ a n ∧ ∃ w, w.length = j ∧ (∀ b ∈ w, b ∈ by_) ∧ Leads g w n
  here : left n = some k
  q : ∀ n ∈ todo, ∃ j, left n = some j ∧ k ≤ j
  up : ∀ n j, left n = some j → j ≤ k + 1
  sorted : todo.Pairwise fun n p => ∀ i j, left n = some i → left p = some j → i ≤ j
  done : ∀ m j, left m = some j → m ∉ todo → m ≠ n → PredsOk g by_ a m left j
  now : ∀ p, d p → ∃ j, j ≤ k + 1 ∧ left p = some j
section
variable {g : Gr} {by_ : List Nat} {a n p : Nd} {left : Nd → Option Nat} {todo : List Nd} {k : Nat} {d : Nd → Prop}
end
end Go.Proofs.YtfbghcpdinlmcaaGreatDoor

/- All that can be reached, in the order in which it is found, and what leads to it; plain law. -/
set_option linter.unusedVariables false
set_option linter.unusedSimpArgs false
namespace Go.Proofs.YtfbghcpdinlmcaaGreatDoor
/-- The nodes found so far; bk t p: p is listed as one that leads to t; what holds of d has been gone through. -/
structure RInv (g : Gr) (by_ : List Nat) (a : Nd) (order : List Nd) (bk : Nd → Nd → Prop) (d : Nd → Nat → Nd → Prop) : Prop where
  first : order[0]? = some a
  nodup : order.Nodup
  reach : ∀ n ∈ order, Reach g by_ a n
  back : ∀ t p, bk t p → Reach g by_ a p ∧ ∃ b, b ∈ by_ ∧ t ∈ g.next p b
  done : ∀ n b t, d n b t → t ∈ order ∧ bk t n
section
variable {g : Gr} {by_ : List Nat} {a n t : Nd} {b : Nat} {order : List Nd} {bk bk' : Nd → Nd → Prop} {d : Nd → Nat → Nd → Prop}
end
end Go.Proofs.YtfbghcpdinlmcaaGreatDoor

/- Rows of nodes, each with the least word of one length that leads to it; plain law. -/
set_option linter.unusedVariables false
set_option linter.unusedSimpArgs false
namespace Go.Proofs.YtfbghcpdinlmcaaGreatDoor

/-! ### the order -/
/-! ### ways -/
/-- w leads from n to t. -/
def To (g : Gr) : List Nat → Nd → Nd → Prop
  | [], n, t => n = t
  | b :: w, n, t => ∃ m, m ∈ g.next n b ∧ To g w m t
/-! ### rows -/
abbrev NW := Nd × List Nat
structure RowOk (g : Gr) (by_ : List Nat) (a : Nd) (L : Nat) (F : List NW) : Prop where
  nd : (F.map (·.1)).Nodup
  ok : ∀ x ∈ F, x.2.length = L ∧ (∀ b ∈ x.2, b ∈ by_) ∧ To g x.2 a x.1
  all : ∀ w t, w.length = L → (∀ b ∈ w, b ∈ by_) → To g w a t → ∃ x ∈ F, x.1 = t ∧ lexL x.2 w
/-- The row of words of one byte more, while it is made: what holds of d has been put in. -/
structure RowMid (g : Gr) (by_ : List Nat) (a : Nd) (L : Nat) (F : List NW) (d : Nd → List Nat → Prop) : Prop where
  nd : (F.map (·.1)).Nodup
  ok : ∀ x ∈ F, x.2.length = L ∧ (∀ b ∈ x.2, b ∈ by_) ∧ To g x.2 a x.1
  all : ∀ t w, d t w → w.length = L → ∃ x ∈ F, x.1 = t ∧ lexL x.2 w
section
variable {g : Gr} {by_ : List Nat} {a n t : Nd} {L : Nat} {F F' : List NW} {d d' : Nd → List Nat → Prop} {w : List Nat} {r : Bool}
variable (hby : ∀ c, c < 256 → ∃ r ∈ by_, r ≤ c ∧ ∀ n, g.next n r = g.next n c)
include hby
end
end Go.Proofs.YtfbghcpdinlmcaaGreatDoor

/- The graphs of Meets, Cat and Iter, and what their words say; plain law. -/
set_option linter.unusedVariables false
set_option linter.unusedSimpArgs false
namespace Go.Proofs.YtfbghcpdinlmcaaGreatDoor
open Go.VC
/-- Where a word leads. -/
def runL (o : Option AM) (w : List Nat) (q : Int) : Int := w.foldl (fun q b => stepM o q b) q
def accL (o : Option AM) (w : List Nat) : Bool := finM o (runL o w 0)
def root : Nd := ⟨0, 0, 0⟩

section
variable {a b : Option AM}
end
section
variable {a : Option AM}
end
end Go.Proofs.YtfbghcpdinlmcaaGreatDoor
/- ambig's graphs in memory; maps of slices that begin with nil ones. -/
set_option linter.unusedVariables false
set_option linter.unusedSimpArgs false
set_option maxRecDepth 100000
namespace Go.VC
section
variable {α β : Type} {Ok : α → Prop} {enc : α → Value} {T : Ty β} {e : TypeId} {b : Nat} {m : α → Option Value} {B : Nat → Prop} {H0 H H' : Heap} {ps : List Pc}
end
end Go.VC
namespace Go.Proofs.YtfbghcpdinlmcaaGreatDoor
open Go.VC
/-- What is asked of a graph: its bytes, its nodes, their numbers. -/
structure GraphOk (g : Gr) (by_ : List Nat) (M C : Nat) : Prop where
  byl : ∀ b ∈ by_, b < 256
  nb : by_.length ≤ 256
  ok : ∀ n, Reach g by_ root n → n.Ok
  card : ∀ l : List Nd, l.Nodup → (∀ n ∈ l, Reach g by_ root n) → l.length ≤ M
  occ : ∀ n b t, Reach g by_ root n → b ∈ by_ → (g.next n b).count t ≤ C
  c0 : 1 ≤ C
  big : C * (256 * M) ≤ 5864062014805
/-- A graph in memory. -/
structure GraphV (S : Nat → Prop) (H : Heap) (v : Value) (g : Gr) (by_ : List Nat) : Prop where
  out : ∃ (pg : Nat) (ba : Option Addr) (bc : Nat) (f e : FuncId) (fs cs es ds : List Value), v = .pointer (some ⟨pg, 0, none⟩) ∧ S pg ∧
    Blk H pg 206 [.slice ba by_.length bc, .func (.func f) fs.toArray cs.toArray, .func (.func e) es.toArray ds.toArray] ∧ SlD (tInt .u8) S H ba bc (by_.map fun (b : Nat) => (b : Int)) ∧
    (∀ H', Agr S H H' → ∀ n b, Reach g by_ root n → b ∈ by_ → FnOk Tryz.prog f (fs ++ [ndV n, .int .u8 (b : Int)] ++ cs).toArray H' fun v H'' => Agr (Old H') H' H'' ∧ SlO tNd none_ H'' H'.size 208 v (g.next n b)) ∧
    (∀ H', Agr S H H' → ∀ n, Reach g by_ root n → Pure Tryz.prog e (es ++ [ndV n] ++ ds).toArray H' (.bool (g.ends n)))
end Go.Proofs.YtfbghcpdinlmcaaGreatDoor

/- ambig's reach: the walk. -/
set_option linter.unusedVariables false
set_option linter.unusedSimpArgs false
set_option maxRecDepth 100000
namespace Go.Proofs.YtfbghcpdinlmcaaGreatDoor
open Go.VC
end Go.Proofs.YtfbghcpdinlmcaaGreatDoor

/- ambig's first, once the distances are known: byte by byte; plain law. -/
set_option linter.unusedVariables false
set_option linter.unusedSimpArgs false
namespace Go.VC
end Go.VC
namespace Go.Proofs.YtfbghcpdinlmcaaGreatDoor
open Go.VC
/-- What is left of the word that is asked for: r bytes, from one of P on. -/
structure Pre (g : Gr) (a : Nd) (lf : Nd → Option Nat) (L r : Nat) (w : List Nat) (P : Nd → Prop) : Prop where
  len : w.length + r = L
  fst : ∀ v, FirstOf g P r v → FirstOf g (· = a) L (w ++ v)
  all : ∀ n, P n → lf n = some r
  ne : ∃ n, P n
section
variable {g : Gr} {by_ : List Nat} {a : Nd} {lf : Nd → Option Nat} {L k b : Nat} {w : List Nat} {P Q : Nd → Prop}
variable (hby : ∀ c, c < 256 → ∃ r ∈ by_, r ≤ c ∧ ∀ n, g.next n r = g.next n c)
include hby
end
def bA (w : List Nat) : ByteArray := ⟨(w.map UInt8.ofNat).toArray⟩
end Go.Proofs.YtfbghcpdinlmcaaGreatDoor

/- ambig's first: the walk. -/
set_option linter.unusedVariables false
set_option linter.unusedSimpArgs false
set_option maxRecDepth 100000
namespace Go.Proofs.YtfbghcpdinlmcaaGreatDoor
open Go.VC
/-- The nodes whose distance is known. -/
structure Seen (g : Gr) (by_ : List Nat) (lf : Nd → Option Nat) (seen : List Nd) : Prop where
  nd : seen.Nodup
  mem : ∀ n, (lf n).isSome = true ↔ n ∈ seen
  le : ∀ n j, lf n = some j → j ≤ seen.length
  rch : ∀ n ∈ seen, Reach g by_ root n
end Go.Proofs.YtfbghcpdinlmcaaGreatDoor
/- The graphs of Meets, Cat and Iter are what the walks ask for; cuts; plain law. -/
set_option linter.unusedVariables false
set_option linter.unusedSimpArgs false
set_option maxRecDepth 100000
namespace Go.Proofs.YtfbghcpdinlmcaaGreatDoor
open Go.VC
attribute [local irreducible] mRun gRun atRun
/-- A state of o. -/
def inA (o : Option AM) (q : Int) : Prop := 0 ≤ q ∧ q < stN o
/-- o's steps stay among its states, of which there are at most 65536. -/
structure StepOk (o : Option AM) : Prop where
  n1 : 1 ≤ stN o
  n2 : stN o ≤ 65536
  step : ∀ q b, inA o q → b < 256 → inA o (stepM o q b)
theorem step_rng0 {S : Nat → Prop} {H : Heap} {v : Value} {o : Option AM} (h : AutoV S H v o) {q b : Nat} (hq : q < stN o) (hb : b < 256) : 0 ≤ stepM o (q : Int) b ∧ stepM o (q : Int) b < stN o := by
  cases o with
  | none =>
    have : q = 0 := by simp only [stN] at hq; omega
    subst this
    decide +revert
  | some A =>
    obtain ⟨pb, rfl, hown, hok, _⟩ := h
    exact stepM_range hok (by omega) (by simp only [stN] at hq; omega) hb
theorem AutoV.steps {S : Nat → Prop} {H : Heap} {v : Value} {o : Option AM} (h : AutoV S H v o) : StepOk o :=
  ⟨(stN_le h).1, (stN_le h).2, fun q b hq hb => by
    obtain ⟨n, rfl⟩ := Int.eq_ofNat_of_zero_le hq.1
    exact step_rng0 h (by have := hq.2; omega) hb⟩
/-- Nodes of at most K stages behind the first. -/
structure InR (K : Nat) (n : Nd) : Prop where
  s0 : 0 ≤ n.s
  s1 : n.s ≤ K
  x0 : 0 ≤ n.x
  x1 : n.x < 65536
  y0 : 0 ≤ n.y
  y1 : n.y < 65536
  z : n.s = 0 → n.y = 0
section
variable {a b : Option AM}
end
end Go.Proofs.YtfbghcpdinlmcaaGreatDoor

/- Texts and their cuts; plain law. -/
set_option linter.unusedVariables false
set_option linter.unusedSimpArgs false
set_option maxRecDepth 100000
namespace Go.Proofs.YtfbghcpdinlmcaaGreatDoor
open Go.VC
attribute [local irreducible] mRun gRun atRun
theorem bA_size (w : List Nat) : (bA w).size = w.length := by unfold bA; simp [ByteArray.size]
theorem bA_data (w : List Nat) : (bA w).data.toList = w.map UInt8.ofNat := by unfold bA; simp
theorem acc_bA {o : Option AM} {w : List Nat} (h : bytes_ w) : acceptsM o (bA w) = accL o w := by
  unfold acceptsM accL runM runL
  rw [bA_size, bA_data, List.take_of_length_le (by simp), List.foldl_map]
  congr 1
  have : ∀ (w : List Nat) (q : Int), bytes_ w → w.foldl (fun q b => stepM o q (UInt8.ofNat b).toNat) q = w.foldl (fun q b => stepM o q b) q := fun w => by
    induction w with
    | nil => intro q _; rfl
    | cons c w ih =>
      intro q hb
      have hc := hb c List.mem_cons_self
      have e : (UInt8.ofNat c).toNat = c := by simp; omega
      rw [List.foldl_cons, List.foldl_cons, e]
      exact ih _ fun d hd => hb d (List.mem_cons_of_mem _ hd)
  exact this w 0 h
/-- The bytes of a text. -/
def unB (s : ByteArray) : List Nat := s.data.toList.map UInt8.toNat
theorem unB_bytes (s : ByteArray) : bytes_ (unB s) := fun b hb => by
  obtain ⟨x, -, rfl⟩ := List.mem_map.1 hb
  exact UInt8.toNat_lt x
theorem bA_unB (s : ByteArray) : bA (unB s) = s := by
  apply text_inj
  rw [bA_data]
  unfold unB
  rw [List.map_map]
  conv => rhs; rw [← List.map_id s.data.toList]
  apply List.map_congr_left
  intro x _
  simp
end Go.Proofs.YtfbghcpdinlmcaaGreatDoor
/- The functions that Cat gives to its graph: the walks. -/
set_option linter.unusedVariables false
set_option linter.unusedSimpArgs false
set_option maxRecDepth 100000
namespace Go.Proofs.YtfbghcpdinlmcaaGreatDoor
open Go.VC
attribute [local irreducible] mRun gRun atRun
/-- A variable of its own that holds an automaton. -/
structure VarA (S : Nat → Prop) (H : Heap) (p : Nat) (o : Option AM) : Prop where
  out : ∃ v, S p ∧ Blk H p 23 [v] ∧ AutoV S H v o
end Go.Proofs.YtfbghcpdinlmcaaGreatDoor

/- ambig's cut and Cat: the walks. -/
set_option linter.unusedVariables false
set_option linter.unusedSimpArgs false
set_option maxRecDepth 100000
namespace Go.Proofs.YtfbghcpdinlmcaaGreatDoor
open Go.VC
attribute [local irreducible] mRun gRun atRun
end Go.Proofs.YtfbghcpdinlmcaaGreatDoor

/- ambig's Iter and its functions: the walks. -/
set_option linter.unusedVariables false
set_option linter.unusedSimpArgs false
set_option maxRecDepth 100000
namespace Go.Proofs.YtfbghcpdinlmcaaGreatDoor
open Go.VC
attribute [local irreducible] mRun gRun atRun
/-- A variable that holds Iter's moves. -/
structure VarF (S : Nat → Prop) (H : Heap) (p pa : Nat) : Prop where
  in_ : S p
  blk : Blk H p 269 [.func (.func 148) #[] #[.pointer (some ⟨pa, 0, none⟩)]]
end Go.Proofs.YtfbghcpdinlmcaaGreatDoor

/- ambig's Iter: the walk. -/
set_option linter.unusedVariables false
set_option linter.unusedSimpArgs false
set_option maxRecDepth 100000
namespace Go.Proofs.YtfbghcpdinlmcaaGreatDoor
open Go.VC
attribute [local irreducible] mRun gRun atRun
end Go.Proofs.YtfbghcpdinlmcaaGreatDoor
/- The document's Cells: the walk. -/
set_option linter.unusedVariables false
set_option linter.unusedSimpArgs false
set_option maxRecDepth 100000
namespace Go.Proofs.YtfbghcpdinlmcaaGreatDoor
open Go.VC
attribute [local irreducible] mRun atRun gRun

end Go.Proofs.YtfbghcpdinlmcaaGreatDoor
/- The program's automaton and the document's, side by side. -/
set_option linter.unusedVariables false
set_option linter.unusedSimpArgs false
set_option maxRecDepth 100000
namespace Go.Proofs.YtfbghcpdinlmcaaGreatDoor
open Go.VC
attribute [local irreducible] mRun atRun

/-- The program's automaton and the document's are alike. -/
structure Both (o : Option AM) (D : DM) : Prop where
  ok : D.Ok
  n : stN o = D.next.length
  step : ∀ (q : Int) (b : Nat), b < 256 → stepM o q b = stepD D q b
  fin : ∀ q : Int, finM o q = finD D q
  alive : ∀ q : Int, aliveM o q = aliveD D q
section
variable {o : Option AM} {D : DM}
end
end Go.Proofs.YtfbghcpdinlmcaaGreatDoor
/- The document's side of layer 9: the bytes that stand for all, the game's rules. -/
set_option linter.unusedVariables false
set_option linter.unusedSimpArgs false
set_option maxRecDepth 100000
namespace Go.Proofs.YtfbghcpdinlmcaaGreatDoor
open Go.VC
attribute [local irreducible] mRun gRun atRun

/-! ### cells as sets of bits -/
end Go.Proofs.YtfbghcpdinlmcaaGreatDoor
/- Automata of the document in memory, parted bytes; two states of memory one behind the other. -/
set_option linter.unusedVariables false
set_option linter.unusedSimpArgs false
set_option maxRecDepth 100000
namespace Go.VC
end Go.VC
namespace Go.Proofs.YtfbghcpdinlmcaaGreatDoor
open Go.VC
attribute [local irreducible] mRun gRun atRun
end Go.Proofs.YtfbghcpdinlmcaaGreatDoor
/- The document's Determinize: the walk. -/
set_option linter.unusedVariables false
set_option linter.unusedSimpArgs false
set_option maxRecDepth 100000
namespace Go.Proofs.YtfbghcpdinlmcaaGreatDoor
open Go.VC
attribute [local irreducible] mRun gRun atRun
end Go.Proofs.YtfbghcpdinlmcaaGreatDoor
/- The least bytes of the atoms are the same on both sides: the plain law. -/
set_option linter.unusedVariables false
set_option linter.unusedSimpArgs false
set_option maxRecDepth 100000
namespace Go.Proofs.YtfbghcpdinlmcaaGreatDoor
open Go.VC
def leastB (cells : List (BitVec 256)) (g : Nat) : Bool := (List.range g).all fun h => !sigEq cells g h
theorem sigEq_iff {cells : List (BitVec 256)} {a b : Nat} : sigEq cells a b = true ↔ ∀ c ∈ cells, c.getLsbD a = c.getLsbD b := by
  unfold sigEq
  simp
theorem leastB_iff {cells : List (BitVec 256)} {g : Nat} : leastB cells g = true ↔ ∀ h, h < g → sigEq cells g h = false := by
  unfold leastB
  simp
theorem exists_least {cells : List (BitVec 256)} {b : Nat} : ∀ h, sigEq cells b h = true → ∃ g, g ≤ h ∧ sigEq cells b g = true ∧ leastB cells g = true := by
  intro h
  induction h using Nat.strongRecOn with
  | _ h ih =>
    intro hb
    by_cases hl : leastB cells h = true
    · exact ⟨h, Nat.le_refl _, hb, hl⟩
    · have : ∃ h', h' < h ∧ sigEq cells h h' = true := by
        apply Classical.byContradiction
        intro hno
        apply hl
        rw [leastB_iff]
        intro h' hh'
        cases hs : sigEq cells h h' with
        | false => rfl
        | true => exact absurd ⟨h', hh', hs⟩ hno
      obtain ⟨h', hlt, hs⟩ := this
      obtain ⟨g, g1, g2, g3⟩ := ih h' hlt (sigEq_iff.2 fun c hc => (sigEq_iff.1 hb c hc).trans (sigEq_iff.1 hs c hc))
      exact ⟨g, by omega, g2, g3⟩
/-! ### the blocks -/
def Apart_ (x y : BitVec 256) : Prop := ∀ c, x.getLsbD c = true → y.getLsbD c = false
theorem cut_mem {s b x : BitVec 256} (h : x ∈ cutB s b) : x = b &&& s ∨ x = b &&& ~~~s := by
  have := (List.mem_filter.1 h).1
  simpa using this
theorem blocks_apart (sets : List (BitVec 256)) : (blocksM sets).Pairwise Apart_ := by
  have key : ∀ (rest bl : List (BitVec 256)), bl.Pairwise Apart_ → (rest.foldl partB bl).Pairwise Apart_ := by
    intro rest
    induction rest with
    | nil => exact fun bl h => h
    | cons s rest ih =>
      intro bl h
      refine ih _ ?_
      unfold partB
      rw [List.pairwise_flatMap]
      refine ⟨fun b hb => ?_, h.imp fun {x y} hxy u hu v hv c hc => ?_⟩
      · refine List.Pairwise.filter _ ?_
        refine List.pairwise_cons.2 ⟨fun y hy c hc => ?_, List.pairwise_singleton _ _⟩
        rw [List.mem_singleton] at hy
        subst hy
        rw [BitVec.getLsbD_and, Bool.and_eq_true] at hc
        rw [BitVec.getLsbD_and, BitVec.getLsbD_not, hc.2]
        simp
      · have h1 : x.getLsbD c = true := by
          rcases cut_mem hu with rfl | rfl <;> · rw [BitVec.getLsbD_and, Bool.and_eq_true] at hc; exact hc.1
        have h2 := hxy c h1
        rcases cut_mem hv with rfl | rfl <;> rw [BitVec.getLsbD_and, h2, Bool.false_and]
  exact key sets _ (List.pairwise_singleton _ _)
theorem blocks_sep (sets : List (BitVec 256)) : ∀ x ∈ blocksM sets, ∀ c d, c < 256 → d < 256 → (∀ s ∈ sets, s.getLsbD c = s.getLsbD d) → x.getLsbD c = x.getLsbD d := by
  have key : ∀ (rest bl : List (BitVec 256)) (c d : Nat), c < 256 → d < 256 → (∀ x ∈ bl, x.getLsbD c = x.getLsbD d) → (∀ s ∈ rest, s.getLsbD c = s.getLsbD d) → ∀ x ∈ rest.foldl partB bl, x.getLsbD c = x.getLsbD d := by
    intro rest
    induction rest with
    | nil => exact fun bl c d _ _ h _ => h
    | cons s rest ih =>
      intro bl c d hc hd h hr
      refine ih _ c d hc hd (fun x hx => ?_) fun s' hs' => hr s' (List.mem_cons_of_mem _ hs')
      obtain ⟨b, hb, hx⟩ := List.mem_flatMap.1 hx
      have h1 := h b hb
      have h2 := hr s (List.mem_cons_self ..)
      rcases cut_mem hx with rfl | rfl
      · rw [BitVec.getLsbD_and, BitVec.getLsbD_and, h1, h2]
      · rw [BitVec.getLsbD_and, BitVec.getLsbD_and, BitVec.getLsbD_not, BitVec.getLsbD_not, h1, h2]
        simp [hc, hd]
  intro x hx c d hc hd hs
  refine key sets _ c d hc hd (fun x hx => ?_) hs x hx
  rw [List.mem_singleton] at hx
  subst hx
  rw [BitVec.getLsbD_allOnes, BitVec.getLsbD_allOnes]
  simp [hc, hd]
theorem one_of {l : List (BitVec 256)} {b : Nat} (h : l.Pairwise Apart_) (hne : ∀ x ∈ l, x.getLsbD b = true) (hx : l ≠ []) : ∃ x, l = [x] := by
  match l, hx with
  | [x], _ => exact ⟨x, rfl⟩
  | x :: y :: r, _ =>
    have h1 := (List.pairwise_cons.1 h).1 y (by simp) b (hne x (by simp))
    rw [hne y (by simp)] at h1
    cases h1
theorem repsM_filter (sets : List (BitVec 256)) : repsM sets = (List.range 256).filter (leastB sets) := by
  have hok := part_ok sets
  have hone : ∀ b, b < 256 → (atomsAt (blocksM sets) b).map (fun c => (nextM c 0).1) = if leastB sets b then [b] else [] := by
    intro b hb
    have hall : ∀ x ∈ atomsAt (blocksM sets) b, x ∈ blocksM sets ∧ (nextM x 0).1 = b ∧ x.getLsbD b = true := fun x hx => by
      obtain ⟨h1, h2⟩ := List.mem_filter.1 hx
      have h3 : (nextM x 0).1 = b := by simpa using h2
      have h4 := (least_of (hok.ne x h1)).1
      rw [h3] at h4
      exact ⟨h1, h3, h4⟩
    cases hl : leastB sets b with
    | false =>
      rw [if_neg (by decide)]
      have : atomsAt (blocksM sets) b = [] := by
        apply Classical.byContradiction
        intro hne
        obtain ⟨x, hx⟩ := List.exists_mem_of_ne_nil _ hne
        obtain ⟨h1, h2, h3⟩ := hall x hx
        have : ∃ h, h < b ∧ sigEq sets b h = true := by
          apply Classical.byContradiction
          intro hno
          have : leastB sets b = true := leastB_iff.2 fun h hh => by
            cases hs : sigEq sets b h with
            | false => rfl
            | true => exact absurd ⟨h, hh, hs⟩ hno
          rw [hl] at this; cases this
        obtain ⟨h, hh, hs⟩ := this
        have h4 := blocks_sep sets x h1 b h hb (by omega) (sigEq_iff.1 hs)
        rw [h3] at h4
        have h5 := (least_of (hok.ne x h1)).2 h (by rw [h2]; exact hh)
        rw [h5] at h4; cases h4
      rw [this]; rfl
    | true =>
      rw [if_pos rfl]
      obtain ⟨x, hx, hxb⟩ := hok.all b hb
      obtain ⟨l1, l2⟩ := least_of (hok.ne x hx)
      have hle : (nextM x 0).1 = b := by
        apply Classical.byContradiction
        intro hne
        have hlt : (nextM x 0).1 < b := by
          rcases Nat.lt_or_ge b (nextM x 0).1 with h | h
          · rw [l2 b h] at hxb; cases hxb
          · omega
        have hs := hok.same x hx b _ hxb l1
        have := leastB_iff.1 hl _ hlt
        rw [sigEq_iff.2 hs] at this; cases this
      have hmem : x ∈ atomsAt (blocksM sets) b := List.mem_filter.2 ⟨hx, by rw [hle]; simp⟩
      obtain ⟨y, hy⟩ := one_of (l := atomsAt (blocksM sets) b) (b := b) ((blocks_apart sets).filter _) (fun z hz => (hall z hz).2.2) (List.ne_nil_of_mem hmem)
      rw [hy]
      have := (hall y (by rw [hy]; simp)).2.1
      simp only [List.map_cons, List.map_nil, this]
  unfold repsM atomsM
  rw [List.map_flatMap]
  have key : ∀ l : List Nat, (∀ b ∈ l, b < 256) → (l.flatMap fun b => (atomsAt (blocksM sets) b).map fun c => (nextM c 0).1) = l.filter (leastB sets) := by
    intro l
    induction l with
    | nil => exact fun _ => rfl
    | cons b l ih =>
      intro h
      rw [List.flatMap_cons, hone b (h b (List.mem_cons_self ..)), ih fun x hx => h x (List.mem_cons_of_mem _ hx)]
      cases hl : leastB sets b with
      | true => rw [List.filter_cons_of_pos hl]; rfl
      | false => rw [List.filter_cons_of_neg (by rw [hl]; decide)]; rfl
  exact key _ fun b hb => List.mem_range.1 hb
end Go.Proofs.YtfbghcpdinlmcaaGreatDoor
/- Making automata deterministic: the plain law: the walk over all bytes, and over one byte of each atom, find the same sets. -/
set_option linter.unusedVariables false
set_option linter.unusedSimpArgs false
set_option maxRecDepth 100000
namespace Go.Proofs.YtfbghcpdinlmcaaGreatDoor
open Go.VC
attribute [local irreducible] mRun gRun atRun
section
variable {K : Type} [DecidableEq K] {most : Nat} {step : K → Nat → K} {start : K} {P : K → Prop} {x : K}
theorem rowF_fst (s : Option (List K × List Nat)) (b : Nat) : (rowF most step x s b).map Prod.fst = (s.map Prod.fst).bind fun f => (atF most f (step x b)).map Prod.fst := by
  cases s with
  | none => rfl
  | some p =>
    simp only [rowF, Option.bind_some, Option.map_some]
    cases atF most p.1 (step x b) <;> rfl
theorem atF_old {f : List K} {k : K} {i : Nat} (hn : f.Nodup) (h : f[i]? = some k) : atF most f k = some (f, i) := by
  unfold atF
  have : f.findIdx? (· = k) = some i := by
    rw [List.findIdx?_eq_some_iff_getElem]
    obtain ⟨hi, e⟩ := List.getElem?_eq_some_iff.1 h
    refine ⟨hi, by simpa using e, fun j hj => ?_⟩
    have := (List.pairwise_iff_getElem.1 hn) j i (by omega) hi hj
    rw [e] at this
    simpa using this
  rw [this]
theorem atF_mem2 {F F' : List K} {k : K} {i : Nat} (h : atF most F k = some (F', i)) : ∀ y ∈ F', y ∈ F ∨ y = k := by
  intro y hx
  unfold atF at h
  split at h
  · injection h with h; injection h with h1 h2; subst h1; exact .inl hx
  · split at h
    · injection h with h; injection h with h1 h2; subst h1
      rcases List.mem_append.1 hx with hx | hx
      · exact .inl hx
      · rw [List.mem_singleton] at hx; exact .inr hx
    · cases h
theorem row_P (hs : ∀ b, P (step x b)) : ∀ (l : List Nat) (f f' : List K) (r r' : List Nat), l.foldl (rowF most step x) (some (f, r)) = some (f', r') → (∀ y ∈ f, P y) → ∀ y ∈ f', P y
  | [], f, f', r, r', h, hf => by
    simp only [List.foldl_nil, Option.some.injEq, Prod.mk.injEq] at h
    obtain ⟨rfl, -⟩ := h
    exact hf
  | b :: l, f, f', r, r', h, hf => by
    rw [List.foldl_cons] at h
    simp only [rowF, Option.bind_some] at h
    cases ha : atF most f (step x b) with
    | none => rw [ha] at h; rw [Option.map_none, rowF_none] at h; cases h
    | some p =>
      rw [ha] at h
      refine row_P hs l p.1 f' _ r' h fun y hy => ?_
      rcases atF_mem2 (i := p.2) ha y hy with h1 | rfl
      · exact hf y h1
      · exact hs b
theorem row_pre : ∀ (l : List Nat) (f f' : List K) (r r' : List Nat), l.foldl (rowF most step x) (some (f, r)) = some (f', r') → f.length ≤ most → f.Nodup → f'.length ≤ most ∧ f'.Nodup ∧ f <+: f' ∧ ∃ r2, r' = r ++ r2
  | [], f, f', r, r', h, h1, h2 => by
    simp only [List.foldl_nil, Option.some.injEq, Prod.mk.injEq] at h
    obtain ⟨rfl, rfl⟩ := h
    exact ⟨h1, h2, List.prefix_refl _, [], by simp⟩
  | b :: l, f, f', r, r', h, h1, h2 => by
    rw [List.foldl_cons] at h
    simp only [rowF, Option.bind_some] at h
    cases ha : atF most f (step x b) with
    | none => rw [ha] at h; rw [Option.map_none, rowF_none] at h; cases h
    | some p =>
      rw [ha] at h
      obtain ⟨-, g1, g2, g3⟩ := atF_some (i := p.2) ha h1 h2
      obtain ⟨k1, k2, k3, r2, k4⟩ := row_pre l p.1 f' _ r' h g1 g2
      exact ⟨k1, k2, g3.trans k3, p.2 :: r2, by rw [k4]; simp⟩
/-- What holds of all that has been found. -/
theorem rows_inv (hm : 1 ≤ most) (h0 : P start) (hs : ∀ y b, P y → P (step y b)) (bs : List Nat) : ∀ (n : Nat) (f : List K) (rows : List (List Nat)), rowsF most step bs start n = some (f, rows) → f.length ≤ most ∧ f.Nodup ∧ f[0]? = some start ∧ ∀ y ∈ f, P y
  | 0, f, rows, h => by
    simp only [rowsF, Option.some.injEq, Prod.mk.injEq] at h
    obtain ⟨rfl, -⟩ := h
    exact ⟨hm, by simp, rfl, fun y hy => by rw [List.mem_singleton] at hy; subst hy; exact h0⟩
  | n + 1, f, rows, h => by
    simp only [rowsF] at h
    cases hp : rowsF most step bs start n with
    | none => rw [hp] at h; cases h
    | some p =>
      obtain ⟨g1, g2, g3, g4⟩ := rows_inv hm h0 hs bs n p.1 p.2 hp
      rw [hp] at h
      simp only [Option.bind_some] at h
      cases hx : p.1[n]? with
      | none =>
        rw [hx] at h
        simp only [Option.some.injEq] at h
        subst h
        exact ⟨g1, g2, g3, g4⟩
      | some x =>
        rw [hx] at h
        simp only at h
        cases hr : bs.foldl (rowF most step x) (some (p.1, [])) with
        | none => rw [hr] at h; cases h
        | some r =>
          rw [hr] at h
          simp only [Option.map_some, Option.some.injEq, Prod.mk.injEq] at h
          obtain ⟨rfl, -⟩ := h
          obtain ⟨k1, k2, k3, -⟩ := row_pre bs p.1 r.1 [] r.2 hr g1 g2
          exact ⟨k1, k2, pre_get k3 g3, row_P (fun b => hs x b (g4 x (List.mem_of_getElem? hx))) bs p.1 r.1 [] r.2 hr g4⟩
/-- Each byte that is left out leads as one ahead of it. -/
def CovP (P : K → Prop) (step : K → Nat → K) (p : Nat → Bool) : Prop := ∀ b, b < 256 → p b = false → ∃ g, g < b ∧ p g = true ∧ ∀ x, P x → step x g = step x b
theorem row_canon {p : Nat → Bool} (hc : CovP P step p) (hx : P x) {f : List K} (h1 : f.length ≤ most) (h2 : f.Nodup) : ∀ m, m ≤ 256 →
    ((List.range m).foldl (rowF most step x) (some (f, []))).map Prod.fst = (((List.range m).filter p).foldl (rowF most step x) (some (f, []))).map Prod.fst := by
  intro m
  induction m with
  | zero => intro _; rfl
  | succ m ih =>
    intro hm
    have ih := ih (by omega)
    rw [List.range_succ, List.filter_append, List.foldl_append, List.foldl_append, List.foldl_cons, List.foldl_nil, rowF_fst, ih]
    cases hp : p m with
    | true =>
      rw [List.filter_cons_of_pos hp, List.filter_nil, List.foldl_cons, List.foldl_nil, rowF_fst]
    | false =>
      rw [List.filter_cons_of_neg (by rw [hp]; decide), List.filter_nil, List.foldl_nil]
      cases hA : (List.range m).foldl (rowF most step x) (some (f, [])) with
      | none => rw [← ih, hA]; rfl
      | some q =>
        obtain ⟨f', r'⟩ := q
        obtain ⟨k1, k2, k3, k4, k5⟩ := foldRow_pre h1 h2 hA
        obtain ⟨g, hg, hpg, hs⟩ := hc m (by omega) hp
        rw [List.length_range] at k4
        obtain ⟨t, ht⟩ := get_some (l := r') (k := g) (by omega)
        have h5 := k5 g g t (List.getElem?_range hg) ht
        rw [hs x hx] at h5
        rw [← ih, hA]
        simp only [Option.map_some, Option.bind_some, atF_old k2 h5]
theorem rows_canon {p : Nat → Bool} (hc : CovP P step p) (hm : 1 ≤ most) (h0 : P start) (hs : ∀ y b, P y → P (step y b)) : ∀ n, (rowsF most step (List.range 256) start n).map Prod.fst = (rowsF most step ((List.range 256).filter p) start n).map Prod.fst
  | 0 => rfl
  | n + 1 => by
    have ih := rows_canon hc hm h0 hs n
    simp only [rowsF]
    cases hA : rowsF most step (List.range 256) start n with
    | none =>
      rw [hA] at ih
      cases hB : rowsF most step ((List.range 256).filter p) start n with
      | none => rfl
      | some q => rw [hB] at ih; cases ih
    | some q =>
      rw [hA] at ih
      cases hB : rowsF most step ((List.range 256).filter p) start n with
      | none => rw [hB] at ih; cases ih
      | some q' =>
        rw [hB] at ih
        simp only [Option.map_some, Option.some.injEq] at ih
        obtain ⟨f, rows⟩ := q
        obtain ⟨f', rows'⟩ := q'
        simp only at ih
        subst ih
        obtain ⟨g1, g2, g3, g4⟩ := rows_inv hm h0 hs _ n f rows hA
        simp only [Option.bind_some]
        cases hx : f[n]? with
        | none => rfl
        | some x =>
          have hr := row_canon hc (g4 x (List.mem_of_getElem? hx)) g1 g2 256 (Nat.le_refl _)
          cases hA2 : (List.range 256).foldl (rowF most step x) (some (f, [])) with
          | none =>
            rw [hA2] at hr
            cases hB2 : ((List.range 256).filter p).foldl (rowF most step x) (some (f, [])) with
            | none => simp only [hA2, hB2]; rfl
            | some r => rw [hB2] at hr; cases hr
          | some r =>
            rw [hA2] at hr
            cases hB2 : ((List.range 256).filter p).foldl (rowF most step x) (some (f, [])) with
            | none => rw [hB2] at hr; cases hr
            | some r' =>
              rw [hB2] at hr
              simp only [hA2, hB2]
              simpa using hr
/-- All sets, in the order in which a walk over all bytes finds them. -/
def detW (most : Nat) (step : K → Nat → K) (start : K) : Option (List K) := (detF most step (List.range 256) start).map Prod.fst
theorem detW_of {p : Nat → Bool} (hc : CovP P step p) (hm : 1 ≤ most) (h0 : P start) (hs : ∀ y b, P y → P (step y b)) : (detF most step ((List.range 256).filter p) start).map Prod.fst = detW most step start := (rows_canon hc hm h0 hs most).symm
/-- A prefix of the walk has found a prefix. -/
theorem rows_pre (hm : 1 ≤ most) {bs : List Nat} : ∀ (k n : Nat) (f : List K) (rows : List (List Nat)), rowsF most step bs start (n + k) = some (f, rows) → ∃ f1 rows1, rowsF most step bs start n = some (f1, rows1) ∧ f1 <+: f
  | 0, n, f, rows, h => ⟨f, rows, h, List.prefix_refl _⟩
  | k + 1, n, f, rows, h => by
    rw [← Nat.add_assoc] at h
    simp only [rowsF] at h
    cases hp : rowsF most step bs start (n + k) with
    | none => rw [hp] at h; cases h
    | some p =>
      obtain ⟨f1, rows1, e1, e2⟩ := rows_pre hm k n p.1 p.2 hp
      obtain ⟨g1, g2, -⟩ := rows_inv (P := fun _ => True) hm trivial (fun _ _ _ => trivial) bs (n + k) p.1 p.2 hp
      rw [hp] at h
      simp only [Option.bind_some] at h
      cases hx : p.1[n + k]? with
      | none =>
        rw [hx] at h
        simp only [Option.some.injEq] at h
        subst h
        exact ⟨f1, rows1, e1, e2⟩
      | some x =>
        rw [hx] at h
        simp only at h
        cases hr : bs.foldl (rowF most step x) (some (p.1, [])) with
        | none => rw [hr] at h; cases h
        | some r =>
          rw [hr] at h
          simp only [Option.map_some, Option.some.injEq, Prod.mk.injEq] at h
          obtain ⟨rfl, -⟩ := h
          exact ⟨f1, rows1, e1, e2.trans (row_pre bs p.1 r.1 [] r.2 hr g1 g2).2.2.1⟩
theorem detF_at (hm : 1 ≤ most) {bs : List Nat} {F : List K} {rows : List (List Nat)} (h : detF most step bs start = some (F, rows)) : rowsF most step bs start F.length = some (F, rows) := by
  obtain ⟨g1, -⟩ := rows_inv (P := fun _ => True) hm trivial (fun _ _ _ => trivial) bs most F rows h
  obtain ⟨f1, rows1, e1, e2⟩ := rows_pre hm (most - F.length) F.length F rows (by rw [show F.length + (most - F.length) = most by omega]; exact h)
  have e3 := rowsF_stop e1 e2.length_le most g1
  have e4 : rowsF most step bs start most = some (F, rows) := h
  rw [e4] at e3
  rw [e1]
  exact e3.symm
theorem detW_len (hm : 1 ≤ most) {F : List K} (h : detW most step start = some F) : 1 ≤ F.length ∧ F.length ≤ most ∧ F.Nodup ∧ F[0]? = some start := by
  unfold detW at h
  cases hd : detF most step (List.range 256) start with
  | none => rw [hd] at h; cases h
  | some p =>
    rw [hd] at h
    simp only [Option.map_some, Option.some.injEq] at h
    subst h
    obtain ⟨g1, g2, g3, -⟩ := rows_inv (P := fun _ => True) hm trivial (fun _ _ _ => trivial) (List.range 256) most p.1 p.2 hd
    exact ⟨(List.getElem?_eq_some_iff.1 g3).1, g1, g2, g3⟩
end
/-! ### atoms as a table's cells -/
theorem Apart_.sym {x y : BitVec 256} (h : Apart_ x y) : Apart_ y x := fun c hc => by
  cases hx : x.getLsbD c with
  | false => rfl
  | true => rw [h c hx] at hc; cases hc
theorem apart_ne {l : List (BitVec 256)} (h : l.Pairwise Apart_) {x y : BitVec 256} (hx : x ∈ l) (hy : y ∈ l) (hne : x ≠ y) : Apart_ x y := by
  obtain ⟨i, hi, rfl⟩ := List.getElem_of_mem hx
  obtain ⟨j, hj, rfl⟩ := List.getElem_of_mem hy
  rcases Nat.lt_trichotomy i j with hlt | rfl | hlt
  · exact List.pairwise_iff_getElem.1 h i j hi hj hlt
  · exact absurd rfl hne
  · exact (List.pairwise_iff_getElem.1 h j i hj hi hlt).sym
theorem atoms_mem {sets : List (BitVec 256)} {x : BitVec 256} : x ∈ atomsM sets ↔ x ∈ blocksM sets := by
  unfold atomsM
  rw [List.mem_flatMap]
  constructor
  · rintro ⟨b, -, hx⟩
    exact (List.mem_filter.1 hx).1
  · exact fun h => ⟨(nextM x 0).1, List.mem_range.2 (nextM_lt x 0), List.mem_filter.2 ⟨h, by simp⟩⟩
theorem atoms_apart (sets : List (BitVec 256)) : (atomsM sets).Pairwise Apart_ := by
  have hb := blocks_apart sets
  unfold atomsM
  rw [List.pairwise_flatMap]
  refine ⟨fun b _ => hb.filter _, List.pairwise_lt_range.imp fun {b c} hbc x hx y hy => ?_⟩
  obtain ⟨h1, h2⟩ := List.mem_filter.1 hx
  obtain ⟨h3, h4⟩ := List.mem_filter.1 hy
  refine apart_ne hb h1 h3 fun e => ?_
  subst e
  have e1 : (nextM x 0).1 = b := by simpa using h2
  have e2 : (nextM x 0).1 = c := by simpa using h4
  omega
theorem atoms_cnt (sets : List (BitVec 256)) {b : Nat} (hb : b < 256) : cnt (atomsM sets) b = 1 := by
  unfold cnt
  obtain ⟨x, hx, hxb⟩ := (part_ok sets).all b hb
  obtain ⟨y, hy⟩ := one_of (l := (atomsM sets).filter fun x => x.getLsbD b) (b := b) ((atoms_apart sets).filter _) (fun z hz => (List.mem_filter.1 hz).2) (List.ne_nil_of_mem (List.mem_filter.2 ⟨atoms_mem.2 hx, hxb⟩))
  rw [hy]
  rfl
/-! ### both sides -/
def HasL (a : NfM) (l : List Int) : Prop := ∀ q ∈ l, a.has q = true
/-- The sets hold all that ways take. -/
def Takes (a : NfM) (sets : List (BitVec 256)) : Prop := ∀ e ∈ a.edges, e.sil = false → okE a e = true → e.set ∈ sets
theorem takes_A (a : NfM) : Takes a (setsA a) := fun e he hs hk => by
  unfold okE at hk
  rw [Bool.and_eq_true] at hk
  obtain ⟨row, h1, -, h3⟩ := takT_row hk.1
  exact List.mem_flatMap.2 ⟨row, List.mem_of_getElem? h1, List.mem_map.2 ⟨e, (h3 e).2 ⟨he, hs, rfl, hk.2⟩, rfl⟩⟩
theorem step_sep {a : NfM} {sets : List (BitVec 256)} (ht : Takes a sets) {g b : Nat} (hs : sigEq sets g b = true) {l : List Int} (hl : HasL a l) : stepA a l g = stepA a l b := by
  have key : ∀ g b : Nat, sigEq sets g b = true → ∀ q, hopS a (· ∈ l) g q → hopS a (· ∈ l) b q := fun g b hs q ⟨e, h1, h2, h3, h4, h5, h6⟩ =>
    ⟨e, h1, h2, by rw [← sigEq_iff.1 hs e.set (ht e h1 h2 (by unfold okE; rw [hl _ h4, h5]; rfl))]; exact h3, h4, h5, h6⟩
  have hs' : sigEq sets b g = true := sigEq_iff.2 fun c hc => (sigEq_iff.1 hs c hc).symm
  unfold stepA goS
  have e : hopS a (· ∈ l) g = hopS a (· ∈ l) b := funext fun q => propext ⟨key g b hs q, key b g hs' q⟩
  rw [e]
theorem covP_of {a : NfM} {sets : List (BitVec 256)} (ht : Takes a sets) : CovP (HasL a) (stepA a) (leastB sets) := fun b hb hp => by
  obtain ⟨g, g1, g2, g3⟩ := exists_least (cells := sets) (b := b) b (sigEq_refl sets b)
  have hne : g ≠ b := fun e => by rw [e, hp] at g3; cases g3
  exact ⟨g, by omega, g3, fun x hx => step_sep ht (sigEq_iff.2 fun c hc => (sigEq_iff.1 g2 c hc).symm) hx⟩
noncomputable abbrev begL (a : NfM) : List Int := lstS (begS a)
theorem begL_has (a : NfM) : HasL a (begL a) := fun q hq => begS_has a q ((lstS_mem (has_rng (begS_has a)) q).1 hq)
theorem stepL_has {a : NfM} (l : List Int) (b : Nat) (_ : HasL a l) : HasL a (stepA a l b) := stepA_rng
noncomputable def detN (a : NfM) (most : Nat) : Option (List (List Int)) := detW most (stepA a) (begL a)
theorem detA (a : NfM) {most : Nat} (hm : 1 ≤ most) : (detF most (stepA a) (repsM (setsA a)) (begL a)).map Prod.fst = detN a most := by
  rw [repsM_filter]
  exact detW_of (covP_of (takes_A a)) hm (begL_has a) stepL_has
/-- Steps lead from set to set. -/
structure Leads5 (a : NfM) (F : List (List Int)) (st : Int → Nat → Int) (fi : Int → Bool) : Prop where
  st : ∀ (q b : Nat) (x : List Int), F[q]? = some x → b < 256 → ∃ t : Nat, st (q : Int) b = (t : Int) ∧ F[t]? = some (stepA a x b)
  fi : ∀ (q : Nat) (x : List Int), F[q]? = some x → fi (q : Int) = decide (a.fin ∈ x)
theorem det_rowsOk {a : NfM} {most : Nat} {bs : List Nat} {F : List (List Int)} {rows : List (List Nat)} (hm : 1 ≤ most) (h : detF most (stepA a) bs (begL a) = some (F, rows)) : RowsOk most (stepA a) bs (begL a) F.length F rows ∧ ∀ x ∈ F, HasL a x := by
  obtain ⟨-, -, -, g4⟩ := rows_inv (P := HasL a) hm (begL_has a) stepL_has bs most F rows h
  exact ⟨rowsF_ok hm F.length F rows (detF_at hm h) fun j hj => hj, g4⟩
theorem row_lt {a : NfM} {most : Nat} {bs : List Nat} {F : List (List Int)} {rows : List (List Nat)} (hk : RowsOk most (stepA a) bs (begL a) F.length F rows) {q : Nat} {row : List Nat} (hr : rows[q]? = some row) : row.length = bs.length ∧ ∀ t ∈ row, t < F.length := by
  have hcl := hk.cols row (List.mem_of_getElem? hr)
  refine ⟨hcl, fun t ht => ?_⟩
  obtain ⟨k, hkt⟩ := List.getElem?_of_mem ht
  have hkl := (List.getElem?_eq_some_iff.1 hkt).1
  obtain ⟨b, hb⟩ := get_some (l := bs) (k := k) (by omega)
  have hql := (List.getElem?_eq_some_iff.1 hr).1
  rw [hk.rl] at hql
  obtain ⟨x, hx⟩ := get_some (l := F) (k := q) hql
  exact (List.getElem?_eq_some_iff.1 (hk.ok q k row b t x hr hb hkt hx)).1
/-- The program's automaton. -/
theorem autoA {a : NfM} {most : Nat} {F : List (List Int)} {rows : List (List Nat)} (hm : 1 ≤ most) (hm2 : most ≤ 65536) (h : detF most (stepA a) (repsM (setsA a)) (begL a) = some (F, rows)) :
    soundB (atomsM (setsA a)) (rows.map rowI) F.length = true ∧ Leads5 a F (stepM (some (madeM (atomsM (setsA a)) (rows.map rowI) (F.map fun l => decide (a.fin ∈ l))))) (finM (some (madeM (atomsM (setsA a)) (rows.map rowI) (F.map fun l => decide (a.fin ∈ l))))) ∧ stN (some (madeM (atomsM (setsA a)) (rows.map rowI) (F.map fun l => decide (a.fin ∈ l)))) = F.length := by
  obtain ⟨hk, hP⟩ := det_rowsOk hm h
  have h0 := (List.getElem?_eq_some_iff.1 hk.zero).1
  have hlen := hk.len
  have hrl : (rows.map rowI).length = F.length := by rw [List.length_map, hk.rl]
  have hbl : (repsM (setsA a)).length = (atomsM (setsA a)).length := List.length_map _
  have hs : soundB (atomsM (setsA a)) (rows.map rowI) F.length = true := by
    rw [soundB_iff]
    refine ⟨⟨by omega, by omega, hrl⟩, fun b hb => atoms_cnt _ hb, fun r hr => ?_⟩
    obtain ⟨row, hrow, rfl⟩ := List.mem_map.1 hr
    obtain ⟨q, hq⟩ := List.getElem?_of_mem hrow
    obtain ⟨h1, h2⟩ := row_lt hk hq
    unfold rowOk
    rw [Bool.and_eq_true, beq_iff_eq, List.all_eq_true]
    refine ⟨by unfold rowI; rw [List.length_map, h1, hbl], fun t ht => ?_⟩
    obtain ⟨u, hu, rfl⟩ := List.mem_map.1 ht
    have := h2 u hu
    simp only [Bool.and_eq_true, decide_eq_true_eq]
    omega
  have hfl : (F.map fun l => decide (a.fin ∈ l)).length = F.length := List.length_map _
  refine ⟨hs, ⟨fun q b x hx hb => ?_, fun q x hx => ?_⟩, by simp only [stN, madeM, List.length_map]; exact hk.rl⟩
  · obtain ⟨row, hrow⟩ := get_some (l := rows) (k := q) (by rw [hk.rl]; exact (List.getElem?_eq_some_iff.1 hx).1)
    obtain ⟨h1, h2⟩ := row_lt hk hrow
    obtain ⟨c1, c2⟩ := soundB_cells hs hb
    obtain ⟨c, hc⟩ := get_some c1
    have hcb := c2 c hc
    obtain ⟨t, ht⟩ := get_some (l := row) (k := cellOf (atomsM (setsA a)) b) (by omega)
    have hbs : (repsM (setsA a))[cellOf (atomsM (setsA a)) b]? = some (nextM c 0).1 := by unfold repsM; rw [List.getElem?_map, hc]; rfl
    have hok := hk.ok q _ row _ t x hrow hbs ht hx
    have hcm := atoms_mem.1 (List.mem_of_getElem? hc)
    have hp := part_ok (setsA a)
    have hsg : sigEq (setsA a) (nextM c 0).1 b = true := sigEq_iff.2 fun s hs => hp.same c hcm _ _ (least_of (hp.ne c hcm)).1 hcb s hs
    refine ⟨t, ?_, by rw [hok, step_sep (takes_A a) hsg (hP x (List.mem_of_getElem? hx))]⟩
    rw [madeM_step (row := rowI row) (by rw [hfl]; exact hs) (by rw [List.getElem?_map, hrow]; rfl) hb]
    unfold rowI
    rw [List.getD_eq_getElem?_getD, List.getElem?_map, ht]
    rfl
  · simp [finM, madeM, hx]
end Go.Proofs.YtfbghcpdinlmcaaGreatDoor
/- Least automata: the plain law: rounds of telling apart; classes in the order in which they're found. -/
set_option linter.unusedVariables false
set_option linter.unusedSimpArgs false
set_option maxRecDepth 100000
namespace Go.Proofs.YtfbghcpdinlmcaaGreatDoor
open Go.VC
/-! ### lists without doubles -/
theorem snocInd {α : Type} {P : List α → Prop} (h0 : P []) (hs : ∀ (l : List α) (x : α), P l → P (l ++ [x])) (l : List α) : P l := by
  have key : ∀ m : List α, P m.reverse := fun m => by
    induction m with
    | nil => exact h0
    | cons x m ih => rw [List.reverse_cons]; exact hs _ x ih
  have := key l.reverse
  rwa [List.reverse_reverse] at this
section
variable {K : Type} [DecidableEq K]
def dd (l : List K) : List K := l.foldl (fun f k => if k ∈ f then f else f ++ [k]) []
end
/-! ### rounds -/
/-- An automaton, plain. -/
structure PA where
  n : Nat
  st : Nat → Nat → Nat
  fi : Nat → Bool
structure PA.Ok (M : PA) : Prop where
  pos : 0 < M.n
  cl : ∀ q b, q < M.n → b < 256 → M.st q b < M.n
def PA.run (M : PA) (q : Nat) (w : List Nat) : Nat := w.foldl M.st q
def bytes5 (w : List Nat) : Prop := ∀ b ∈ w, b < 256
/-- No word tells them apart. -/
def PA.Eqv (M : PA) (p q : Nat) : Prop := ∀ w, bytes5 w → M.fi (M.run p w) = M.fi (M.run q w)
/-- Some bytes that stand for all. -/
structure Reps (M : PA) (by_ : List Nat) : Prop where
  lt : ∀ b ∈ by_, b < 256
  cov : ∀ b, b < 256 → ∃ g ∈ by_, g ≤ b ∧ ∀ q, q < M.n → M.st q g = M.st q b
/-- A list of states that steps don't leave. -/
structure Closed (M : PA) (l : List Nat) : Prop where
  lt : ∀ q ∈ l, q < M.n
  st : ∀ q ∈ l, ∀ b, b < 256 → M.st q b ∈ l
section
variable {M : PA} {by_ l : List Nat} {P : Nat → Nat}
def keyR (M : PA) (by_ : List Nat) (P : Nat → Nat) (q : Nat) : List Nat := P q :: by_.map fun b => P (M.st q b)
def found (M : PA) (by_ l : List Nat) (P : Nat → Nat) : List (List Nat) := dd (l.map (keyR M by_ P))
/-- How many classes there are. -/
def cls (l : List Nat) (P : Nat → Nat) : Nat := (dd (l.map P)).length
/-- What holds all along. -/
structure RndI (M : PA) (l : List Nat) (P : Nat → Nat) : Prop where
  eqv : ∀ p ∈ l, ∀ q ∈ l, M.Eqv p q → P p = P q
  fi : ∀ p ∈ l, ∀ q ∈ l, P p = P q → M.fi p = M.fi q
/-- The classes are those that no word tells apart. -/
def IsCls (M : PA) (l : List Nat) (P : Nat → Nat) : Prop := ∀ p ∈ l, ∀ q ∈ l, P p = P q ↔ M.Eqv p q
end
end Go.Proofs.YtfbghcpdinlmcaaGreatDoor
/- Least automata: the plain law: classes stand in the order in which their states are found. -/
set_option linter.unusedVariables false
set_option linter.unusedSimpArgs false
set_option maxRecDepth 100000
namespace Go.Proofs.YtfbghcpdinlmcaaGreatDoor
open Go.VC
section
variable {M : PA} {P : Nat → Nat} {most : Nat}
/-- Steps of classes. -/
def cst (M : PA) (P : Nat → Nat) (k b : Nat) : Nat := match (List.range M.n).find? (fun q => P q = k) with
  | some q => P (M.st q b)
  | none => 0
abbrev allS (M : PA) : List Nat := List.range M.n
end
end Go.Proofs.YtfbghcpdinlmcaaGreatDoor
/- minim.reps, minim.blocks: the walks. -/
set_option linter.unusedVariables false
set_option linter.unusedSimpArgs false
set_option maxRecDepth 100000
namespace Go.VC
end Go.VC
namespace Go.Proofs.YtfbghcpdinlmcaaGreatDoor
open Go.VC
attribute [local irreducible] mRun gRun atRun
/-! ### reps -/
/-! ### names of keys -/
end Go.Proofs.YtfbghcpdinlmcaaGreatDoor
/- minim.blocks: the walk. -/
set_option linter.unusedVariables false
set_option linter.unusedSimpArgs false
set_option maxRecDepth 100000
namespace Go.Proofs.YtfbghcpdinlmcaaGreatDoor
open Go.VC
attribute [local irreducible] mRun gRun atRun
/-- The program's automaton, plain. -/
def paO (o : Option AM) : PA := ⟨stN o, fun q b => (stepM o (q : Int) b).toNat, fun q => finM o (q : Int)⟩
structure BlkI (M : PA) (P : Nat → Nat) (cnt : Nat) : Prop where
  rnd : RndI M (allS M) P
  lt : ∀ q, q < M.n → P q < 65536
  cnt : cls (allS M) P = cnt ∨ ∀ p ∈ allS M, ∀ q ∈ allS M, P p = P q
end Go.Proofs.YtfbghcpdinlmcaaGreatDoor
/- minim.Canon: the walk. -/
set_option linter.unusedVariables false
set_option linter.unusedSimpArgs false
set_option maxRecDepth 100000
namespace Go.Proofs.YtfbghcpdinlmcaaGreatDoor
open Go.VC
attribute [local irreducible] mRun gRun atRun
/-- States one for each class, in the order in which the classes are found; an automaton whose states they are. -/
structure LeadsC (M : PA) (O : List Nat) (st : Int → Nat → Int) (fi : Int → Bool) : Prop where
  lt : ∀ x ∈ O, x < M.n
  st : ∀ (i b x : Nat), O[i]? = some x → b < 256 → ∃ t y : Nat, st (i : Int) b = (t : Int) ∧ O[t]? = some y ∧ M.Eqv y (M.st x b)
  fi : ∀ (i x : Nat), O[i]? = some x → fi (i : Int) = M.fi x
def InOrder (M : PA) (O : List Nat) : Prop := ∃ P, IsCls M (allS M) P ∧ detW 65537 (cst M P) (P 0) = some (O.map P)
def intsN (O : List Nat) : List Int := O.map fun (x : Nat) => (x : Int)
end Go.Proofs.YtfbghcpdinlmcaaGreatDoor
/- louperef07.reached: the walk. -/
set_option linter.unusedVariables false
set_option linter.unusedSimpArgs false
set_option maxRecDepth 100000
namespace Go.Proofs.YtfbghcpdinlmcaaGreatDoor
open Go.VC
attribute [local irreducible] mRun gRun atRun
/-- The document's automaton says what M says. -/
structure DocM (D : DM) (M : PA) : Prop where
  n : M.n = D.next.length
  st : ∀ q b, q < M.n → b < 256 → stepD D (q : Int) b = (M.st q b : Int)
  fi : ∀ q, q < M.n → finD D (q : Int) = M.fi q
/-- Its columns have bytes that stand for them. -/
structure RepD (D : DM) (by_ : List Nat) : Prop where
  reps : D.reps = intsN by_
  rl : ∀ row ∈ D.next, row.length = by_.length
  le : by_.length ≤ 256
  lt : ∀ b ∈ by_, b < 256
  at_ : ∀ (c b : Nat), by_[c]? = some b → D.cell[b]? = some (c : Int)
  cov : ∀ b, b < 256 → ∃ c g : Nat, D.cell[b]? = some (c : Int) ∧ by_[c]? = some g ∧ g ≤ b
end Go.Proofs.YtfbghcpdinlmcaaGreatDoor
/- louperef07.parts: the walk. -/
set_option linter.unusedVariables false
set_option linter.unusedSimpArgs false
set_option maxRecDepth 100000
namespace Go.Proofs.YtfbghcpdinlmcaaGreatDoor
open Go.VC
attribute [local irreducible] mRun gRun atRun
end Go.Proofs.YtfbghcpdinlmcaaGreatDoor
/- louperef07.Canon: the walk. -/
set_option linter.unusedVariables false
set_option linter.unusedSimpArgs false
set_option maxRecDepth 100000
namespace Go.VC
end Go.VC
namespace Go.Proofs.YtfbghcpdinlmcaaGreatDoor
open Go.VC
attribute [local irreducible] mRun gRun atRun
end Go.Proofs.YtfbghcpdinlmcaaGreatDoor
/- Two automata whose states are the classes in the order in which they are found are alike; plain law. -/
set_option linter.unusedVariables false
set_option linter.unusedSimpArgs false
namespace Go.Proofs.YtfbghcpdinlmcaaGreatDoor
end Go.Proofs.YtfbghcpdinlmcaaGreatDoor
/- same of the laws of layer 7: the walk (loupelaw05's, with a question for nil ahead). -/
set_option linter.unusedVariables false
set_option linter.unusedSimpArgs false
set_option maxRecDepth 100000
namespace Go.Proofs.YtfbghcpdinlmcaaGreatDoor
open Go.VC
attribute [local irreducible] mRun atRun
end Go.Proofs.YtfbghcpdinlmcaaGreatDoor
/- MinimCanons: same holds of the two canonical automata. -/
set_option linter.unusedVariables false
set_option linter.unusedSimpArgs false
set_option maxRecDepth 100000
namespace Go.Proofs.YtfbghcpdinlmcaaGreatDoor
open Go.VC
attribute [local irreducible] mRun gRun atRun
end Go.Proofs.YtfbghcpdinlmcaaGreatDoor
/- The document's automaton against the program's: DocM. -/
set_option linter.unusedVariables false
set_option linter.unusedSimpArgs false
set_option maxRecDepth 100000
namespace Go.Proofs.YtfbghcpdinlmcaaGreatDoor
open Go.VC
attribute [local irreducible] mRun gRun atRun
end Go.Proofs.YtfbghcpdinlmcaaGreatDoor
/- strconv.Itoa, strings.IndexByte, (*strings.Builder).String: the kit's shelf, laid by its tool. -/
set_option linter.unusedVariables false
set_option linter.unusedSimpArgs false
set_option maxRecDepth 100000
namespace Go.Proofs.YtfbghcpdinlmcaaGreatDoor
open Go.Shelf Go.Proofs Go.VC
end Go.Proofs.YtfbghcpdinlmcaaGreatDoor
/- strings.Builder: copyCheck, by the kit's own steps (its shelf's contract is for another text of copyCheck). -/
set_option linter.unusedVariables false
set_option linter.unusedSimpArgs false
set_option maxRecDepth 100000
namespace Go.Proofs.YtfbghcpdinlmcaaGreatDoor
open Go.Shelf Go.RowKit Go.Proofs
end Go.Proofs.YtfbghcpdinlmcaaGreatDoor
/- strings.Builder: a builder of the call's own: its writing methods and String. -/
set_option linter.unusedVariables false
set_option linter.unusedSimpArgs false
set_option maxRecDepth 100000
namespace Go.VC
end Go.VC
namespace Go.Proofs.YtfbghcpdinlmcaaGreatDoor
open Go.VC
section
variable {B : Nat → Prop} {H0 H H1 : Heap} {b : Nat} {s t : ByteArray} {rest : List Pc} {K : Value → Heap → Prop}
end
end Go.Proofs.YtfbghcpdinlmcaaGreatDoor
/- strings.Builder's String, strconv.Itoa, strings.IndexByte as calls. -/
set_option linter.unusedVariables false
set_option linter.unusedSimpArgs false
set_option maxRecDepth 100000
namespace Go.Proofs.YtfbghcpdinlmcaaGreatDoor
open Go.VC Go.Lib
end Go.Proofs.YtfbghcpdinlmcaaGreatDoor
/- class.single: the walk; how a byte is written. -/
set_option linter.unusedVariables false
set_option linter.unusedSimpArgs false
set_option maxRecDepth 100000
namespace Go.Proofs.YtfbghcpdinlmcaaGreatDoor
open Go.VC Go.Lib
end Go.Proofs.YtfbghcpdinlmcaaGreatDoor
/- louperef01.in, Special, Inner, One: the walks. -/
set_option linter.unusedVariables false
set_option linter.unusedSimpArgs false
set_option maxRecDepth 100000
namespace Go.Proofs.YtfbghcpdinlmcaaGreatDoor
open Go.VC Go.Lib
end Go.Proofs.YtfbghcpdinlmcaaGreatDoor
/- How a set is written: plain. -/
set_option linter.unusedVariables false
set_option linter.unusedSimpArgs false
set_option maxRecDepth 100000
namespace Go.Proofs.YtfbghcpdinlmcaaGreatDoor
open Go.VC Go.Lib
end Go.Proofs.YtfbghcpdinlmcaaGreatDoor
/- class.Show: the walk (printed by mkshw4.py). -/
set_option linter.unusedVariables false
set_option linter.unusedSimpArgs false
set_option maxRecDepth 100000
namespace Go.Proofs.YtfbghcpdinlmcaaGreatDoor
open Go.VC Go.Lib
theorem bsz (w : List Nat) : (bA w).size = w.length := by unfold bA; simp [ByteArray.size]
end Go.Proofs.YtfbghcpdinlmcaaGreatDoor
/- louperef01.Count: the walk. -/
set_option linter.unusedVariables false
set_option linter.unusedSimpArgs false
set_option maxRecDepth 100000
namespace Go.Proofs.YtfbghcpdinlmcaaGreatDoor
open Go.VC Go.Lib
end Go.Proofs.YtfbghcpdinlmcaaGreatDoor
/- louperef01.Show: the walk (printed by mkshw6.py). -/
set_option linter.unusedVariables false
set_option linter.unusedSimpArgs false
set_option maxRecDepth 100000
namespace Go.Proofs.YtfbghcpdinlmcaaGreatDoor
open Go.VC Go.Lib
end Go.Proofs.YtfbghcpdinlmcaaGreatDoor
/- louperef07.Number: the walk; numbers as text. -/
set_option linter.unusedVariables false
set_option linter.unusedSimpArgs false
set_option maxRecDepth 100000
namespace Go.Proofs.YtfbghcpdinlmcaaGreatDoor
open Go.VC Go.Lib
end Go.Proofs.YtfbghcpdinlmcaaGreatDoor
/- The table of an automaton as text: plain. -/
set_option linter.unusedVariables false
set_option linter.unusedSimpArgs false
set_option maxRecDepth 100000
namespace Go.Proofs.YtfbghcpdinlmcaaGreatDoor
open Go.VC Go.Lib
end Go.Proofs.YtfbghcpdinlmcaaGreatDoor
/- A table's text is read in just one way: plain. -/
set_option linter.unusedVariables false
set_option linter.unusedSimpArgs false
set_option maxRecDepth 100000
namespace Go.Proofs.YtfbghcpdinlmcaaGreatDoor
open Go.VC Go.Lib
/-! ### one byte's text is read in one way -/
/-! ### the inside of a set -/
/-! ### a set -/
/-! ### numbers -/
/-! ### lines -/
end Go.Proofs.YtfbghcpdinlmcaaGreatDoor
/- Search by breadth in a graph, bytes in ascending order: the first end that is found has the first word; plain law. -/
set_option linter.unusedVariables false
set_option linter.unusedSimpArgs false
namespace Go.Proofs.YtfbghcpdinlmcaaGreatDoor
/-- Shorter, or as long and no later in order. -/
def leL (u v : List Nat) : Prop := u.length < v.length ∨ (u.length = v.length ∧ lexL u v)
/-- i have been looked at whole; of the next one what holds of d. -/
structure BfsOk (g : Gr) (by_ : List Nat) (a : Nd) (F : List NW) (i : Nat) (k : Nat) : Prop where
  zero : F[0]? = some (a, [])
  nd : (F.map (·.1)).Nodup
  ok : ∀ x ∈ F, (∀ b ∈ x.2, b ∈ by_) ∧ To g x.2 a x.1
  up : ∀ (j l : Nat) (x y : NW), j < l → F[j]? = some x → F[l]? = some y → leL x.2 y.2 ∧ x.2 ≠ y.2
  closed : ∀ (j l : Nat) (x : NW) (b : Nat) (t : Nd), F[j]? = some x → by_[l]? = some b → t ∈ g.next x.1 b → (j < i ∨ (j = i ∧ l < k)) → ∃ y ∈ F, y.1 = t ∧ leL y.2 (x.2 ++ [b])
  par : ∀ (m : Nat) (y : NW), F[m]? = some y → m = 0 ∨ ∃ (j l b : Nat) (x : NW), F[j]? = some x ∧ by_[l]? = some b ∧ y.2 = x.2 ++ [b] ∧ (j < i ∨ (j = i ∧ l < k))
section
variable {g : Gr} {by_ : List Nat} {a t : Nd} {F F' : List NW} {i k : Nat}
variable (hby : ∀ c, c < 256 → ∃ r ∈ by_, r ≤ c ∧ ∀ n, g.next n r = g.next n c)
include hby
end
end Go.Proofs.YtfbghcpdinlmcaaGreatDoor
/- minim.spell: the walk. -/
set_option linter.unusedVariables false
set_option linter.unusedSimpArgs false
set_option maxRecDepth 100000
namespace Go.Proofs.YtfbghcpdinlmcaaGreatDoor
open Go.VC
attribute [local irreducible] mRun gRun atRun
/-! ### pairs and ways -/
structure Links (F : List NW) (W : List (Int × Nat)) : Prop where
  len : W.length = F.length
  nd : (F.map fun x => (x.1.x, x.1.y)).Nodup
  s0 : ∀ x ∈ F, x.1.s = 0
  zero : W[0]? = some (-1, 0)
  link : ∀ (i : Nat) (y : NW), F[i]? = some y → (i = 0 ∧ y.2 = []) ∨ ∃ (j c : Nat) (x : NW), W[i]? = some ((j : Int), c) ∧ j < i ∧ F[j]? = some x ∧ y.2 = x.2 ++ [c] ∧ c < 256
/-! ### turning round -/
end Go.Proofs.YtfbghcpdinlmcaaGreatDoor
/- minim.first: the walk. -/
set_option linter.unusedVariables false
set_option linter.unusedSimpArgs false
set_option maxRecDepth 100000
namespace Go.Proofs.YtfbghcpdinlmcaaGreatDoor
open Go.VC
attribute [local irreducible] mRun gRun atRun
section
variable {ask : Bool → Bool → Bool} {a b : Option AM}
end
end Go.Proofs.YtfbghcpdinlmcaaGreatDoor
/- minim.Differ, Outside, Same: the walks. -/
set_option linter.unusedVariables false
set_option linter.unusedSimpArgs false
set_option maxRecDepth 100000
namespace Go.Proofs.YtfbghcpdinlmcaaGreatDoor
open Go.VC
attribute [local irreducible] mRun gRun atRun
section
variable {S : Nat → Prop} {H : Heap} {va vb : Value} {a b : Option AM}
end
end Go.Proofs.YtfbghcpdinlmcaaGreatDoor
/- auto of the laws of layer 09. -/
set_option linter.unusedVariables false
set_option linter.unusedSimpArgs false
set_option maxRecDepth 100000
namespace Go.Proofs.YtfbghcpdinlmcaaGreatDoor
open Go.VC
attribute [local irreducible] mRun atRun

end Go.Proofs.YtfbghcpdinlmcaaGreatDoor
/- Cat's and Iter's answers for the texts of at least one byte; two words one of which comes ahead; plain law. -/
set_option linter.unusedVariables false
set_option linter.unusedSimpArgs false
set_option maxRecDepth 100000
namespace Go.VC
end Go.VC
namespace Go.Proofs.YtfbghcpdinlmcaaGreatDoor
open Go.VC
def oneM : AM := madeM [BitVec.allOnes 256] [[1], [1]] [false, true]
attribute [local irreducible] oneM mRun gRun atRun
/-! ### ahead -/
end Go.Proofs.YtfbghcpdinlmcaaGreatDoor

/- speaks and ahead of the laws of layer 9: the walks. -/
set_option linter.unusedVariables false
set_option linter.unusedSimpArgs false
set_option maxRecDepth 100000
namespace Go.Proofs.YtfbghcpdinlmcaaGreatDoor
open Go.VC
attribute [local irreducible] oneM mRun gRun atRun
end Go.Proofs.YtfbghcpdinlmcaaGreatDoor
/- The canonical automata of two automata with the same members are alike; plain law. -/
set_option linter.unusedVariables false
set_option linter.unusedSimpArgs false
set_option maxRecDepth 100000
namespace Go.Proofs.YtfbghcpdinlmcaaGreatDoor
open Go.VC
attribute [local irreducible] mRun gRun atRun
/-! ### the walk, mapped -/
section
variable {K K' : Type} [DecidableEq K] [DecidableEq K'] {most : Nat} {step : K → Nat → K} {step' : K' → Nat → K'} {start : K} {f : K → K'} {I : K → Prop}
end
/-! ### members -/
attribute [local irreducible] detW
noncomputable instance decL : DecidableEq (List Nat → Bool) := fun a b => Classical.propDecidable (a = b)
open Classical in
noncomputable def langM (M : PA) (q : Nat) (w : List Nat) : Bool := if bytes5 w then M.fi (M.run q w) else false
def dvL (L : List Nat → Bool) (b : Nat) (w : List Nat) : Bool := L (b :: w)
def InLang (M : PA) (O : List Nat) : Prop := detW 65537 dvL (langM M 0) = some (O.map (langM M))
/-! ### the members of the program's automata -/
/-! ### the words of askG -/
end Go.Proofs.YtfbghcpdinlmcaaGreatDoor
/- odd and ahead of the laws of layer 7: the walks. -/
set_option linter.unusedVariables false
set_option linter.unusedSimpArgs false
set_option maxRecDepth 100000
namespace Go.Proofs.YtfbghcpdinlmcaaGreatDoor
open Go.VC
def odd7M : AM := madeM [BitVec.allOnes 256] [[1], [0]] [false, true]
attribute [local irreducible] odd7M mRun gRun atRun
end Go.Proofs.YtfbghcpdinlmcaaGreatDoor
/- The law DfaNews: its walk. -/
set_option linter.unusedVariables false
set_option linter.unusedSimpArgs false
set_option maxRecDepth 100000
namespace Go.VC
end Go.VC
namespace Go.Proofs.YtfbghcpdinlmcaaGreatDoor
open Go.VC
attribute [local irreducible] mRun atRun

end Go.Proofs.YtfbghcpdinlmcaaGreatDoor
/- Words, listed, Cells as memory of the call's own; the law DfaCells: its walk. -/
set_option linter.unusedVariables false
set_option linter.unusedSimpArgs false
set_option maxRecDepth 100000
namespace Go.Proofs.YtfbghcpdinlmcaaGreatDoor
open Go.VC
attribute [local irreducible] mRun atRun gRun

/-! ### the plain law -/
end Go.Proofs.YtfbghcpdinlmcaaGreatDoor
/- One table just where the same members; the automaton odd: plain laws. -/
set_option linter.unusedVariables false
set_option linter.unusedSimpArgs false
set_option maxRecDepth 100000
namespace Go.Proofs.YtfbghcpdinlmcaaGreatDoor
open Go.VC
attribute [local irreducible] mRun gRun atRun odd7M
/-! ### cells by steps -/
/-! ### the table's text -/
def IsMade (o : Option AM) : Prop := ∃ cells next final, o = autoOf cells next final
theorem IsMade.ok {o : Option AM} (h : IsMade o) : ∃ ls, CellsOk o ls := by
  obtain ⟨c, n, f, rfl⟩ := h
  exact cells_ok c n f
/-- The canonical automaton of o. -/
structure IsCan (o : Option AM) (a : Option AM) : Prop where
  made : IsMade a
  ex : ∃ O, InLang (paO o) O ∧ InOrder (paO o) O ∧ LeadsC (paO o) O (stepM a) (finM a) ∧ stN a = O.length
/-! ### odd -/
/-! ### a table's bytes -/
end Go.Proofs.YtfbghcpdinlmcaaGreatDoor
/- The walk over all things that words lead to, for any steps: what automaton it makes, on both sides; products. Plain law. -/
set_option linter.unusedVariables false
set_option linter.unusedSimpArgs false
set_option maxRecDepth 100000
namespace Go.Proofs.YtfbghcpdinlmcaaGreatDoor
open Go.VC
attribute [local irreducible] mRun gRun atRun
section
variable {K : Type} {most : Nat} {step : K → Nat → K} {start : K} {P : K → Prop} {fin : K → Bool} {sets : List (BitVec 256)}
/-- What steps, a beginning and sets of bytes must bear. -/
structure GenOk (step : K → Nat → K) (start : K) (P : K → Prop) (sets : List (BitVec 256)) : Prop where
  beg : P start
  st : ∀ x b, P x → P (step x b)
  sep : ∀ g b, g < 256 → b < 256 → sigEq sets g b = true → ∀ x, P x → step x g = step x b
structure LeadsG (step : K → Nat → K) (fin : K → Bool) (F : List K) (st : Int → Nat → Int) (fi : Int → Bool) : Prop where
  st : ∀ (q b : Nat) (x : K), F[q]? = some x → b < 256 → ∃ t : Nat, st (q : Int) b = (t : Int) ∧ F[t]? = some (step x b)
  fi : ∀ (q : Nat) (x : K), F[q]? = some x → fi (q : Int) = fin x
/-- Where there's no room, there are more things than room. -/
theorem rowsF_none_many [DecidableEq K] (hm : 1 ≤ most) (h0 : P start) (hs : ∀ x b, P x → P (step x b)) (bs : List Nat) : ∀ n, rowsF most step bs start n = none → ∃ L : List K, L.Nodup ∧ L.length = most + 1 ∧ ∀ x ∈ L, P x
  | 0, h => by cases h
  | n + 1, h => by
    rw [rowsF] at h
    cases hr : rowsF most step bs start n with
    | none => exact rowsF_none_many hm h0 hs bs n hr
    | some p =>
      obtain ⟨f, rows⟩ := p
      obtain ⟨i1, i2, -, i4⟩ := rows_inv (P := P) hm h0 hs bs n f rows hr
      rw [hr] at h
      simp only [Option.bind_some] at h
      cases hx : f[n]? with
      | none => rw [hx] at h; cases h
      | some x =>
        rw [hx] at h
        simp only [Option.map_eq_none_iff] at h
        have hPx := i4 x (List.mem_of_getElem? hx)
        -- the fold fails at some byte
        have key : ∀ (l : List Nat) (g : List K) (r : List Nat), g.length ≤ most → g.Nodup → (∀ y ∈ g, P y) → l.foldl (rowF most step x) (some (g, r)) = none → ∃ L : List K, L.Nodup ∧ L.length = most + 1 ∧ ∀ y ∈ L, P y := fun l => by
          induction l with
          | nil => intro g r _ _ _ h; cases h
          | cons b l ih =>
            intro g r hg hnd hP h
            rw [List.foldl_cons] at h
            cases ha : atF most g (step x b) with
            | none =>
              unfold atF at ha
              cases hf : g.findIdx? (· = step x b) with
              | some j => rw [hf] at ha; cases ha
              | none =>
                rw [hf] at ha
                simp only at ha
                split at ha
                · cases ha
                · have hno : step x b ∉ g := fun hmem => by
                    rw [List.findIdx?_eq_none_iff] at hf
                    have := hf _ hmem
                    simp at this
                  refine ⟨g ++ [step x b], List.nodup_append.2 ⟨hnd, by simp, fun u hu v hv => ?_⟩, by simp; omega, fun y hy => ?_⟩
                  · rw [List.mem_singleton] at hv
                    subst hv
                    exact fun e => hno (e ▸ hu)
                  · rcases List.mem_append.1 hy with hy | hy
                    · exact hP y hy
                    · rw [List.mem_singleton] at hy; subst hy; exact hs x b hPx
            | some q =>
              obtain ⟨g2, i⟩ := q
              have e : rowF most step x (some (g, r)) b = some (g2, r ++ [i]) := by
                show (atF most g (step x b)).map _ = _
                rw [ha]; rfl
              rw [e] at h
              obtain ⟨-, k2, k3, -⟩ := atF_some ha hg hnd
              exact ih g2 _ k2 k3 (fun y hy => by
                rcases atF_mem2 ha y hy with h | rfl
                · exact hP y h
                · exact hs x b hPx) h
        exact key bs f [] i1 i2 i4 h
end
/-! ### products -/
end Go.Proofs.YtfbghcpdinlmcaaGreatDoor
/- Interface values: asking for their type, comparing with nil, calling their methods. -/
set_option linter.unusedVariables false
set_option linter.unusedSimpArgs false
namespace Go.VC
section
variable {P : Program} {t : TypeId} {x y : Operand} {S : Nat → Prop} {H : Heap} {K : Value → Prop} {T A : TypeId} {v z : Value} {d : TypeDesc}
theorem vta_yes (hd : P.underlying A = some d) (hn : ∀ ms, d ≠ .interface ms) (k : K (.tuple #[v, .bool true])) : VDet P (Instr.typeAssert (.iface A v) t A true) S H K := by
  refine VDet.mk _ (fun w _ => ?_) k
  unfold Instr.typeAssert
  simp only [Sem.run_bind, run_underlying hd, Result.andThen_ok]
  cases d <;> first | (exact absurd rfl (hn _)) | simp
theorem vta_no (hd : P.underlying A = some d) (hn : ∀ ms, d ≠ .interface ms) (hz : (P.info? A).bind (·.zero) = some z) (hne : T ≠ A) (k : K (.tuple #[z, .bool false])) : VDet P (Instr.typeAssert (.iface T v) t A true) S H K := by
  refine VDet.mk _ (fun w _ => ?_) k
  have hzr : (zeroValue A).run P w = .ok z w := by
    cases hi : P.info? A with
    | none => rw [hi] at hz; cases hz
    | some i =>
      have hz' : i.zero = some z := by simpa [hi] using hz
      simp [zeroValue, typeInfo, hi, hz']
  unfold Instr.typeAssert
  simp only [Sem.run_bind, run_underlying hd, Result.andThen_ok]
  cases d <;> first | (exact absurd rfl (hn _)) | simp [hne, hzr]
theorem run_if_nil {ms : Array (String × TypeId)} (h : P.underlying t = some (.interface ms)) (w : World) : (Op.equal t (.iface T v) .nilIface).run P w = .ok false w := by
  have : ∀ d : Nat, (Op.equalIn (d + 1) t (.iface T v) .nilIface).run P w = .ok false w := fun d => by
    simp [Op.equalIn, run_underlying h]
  exact this 9999
theorem run_nil_nil {ms : Array (String × TypeId)} (h : P.underlying t = some (.interface ms)) (w : World) : (Op.equal t .nilIface .nilIface).run P w = .ok true w := by
  have : ∀ d : Nat, (Op.equalIn (d + 1) t .nilIface .nilIface).run P w = .ok true w := fun d => by
    simp [Op.equalIn, run_underlying h]
  exact this 9999
theorem ifeq {ms : Array (String × TypeId)} (h : P.underlying t = some (.interface ms)) (k : K (.bool false)) : VDet P (do eqGuard .eql t x y (.iface T v) .nilIface; binOp .eql t (.iface T v) .nilIface) S H K := by
  refine VDet.mk _ (fun w _ => ?_) k
  simp [eqGuard, binOp, run_if_nil h]
theorem ifneq {ms : Array (String × TypeId)} (h : P.underlying t = some (.interface ms)) (k : K (.bool true)) : VDet P (do eqGuard .neq t x y (.iface T v) .nilIface; binOp .neq t (.iface T v) .nilIface) S H K := by
  refine VDet.mk _ (fun w _ => ?_) k
  simp [eqGuard, binOp, run_if_nil h]
theorem ifeqN {ms : Array (String × TypeId)} {c : Value} (h : P.underlying t = some (.interface ms)) (k : K (.bool true)) : VDet P (do eqGuard .eql t x (.const c) .nilIface .nilIface; binOp .eql t .nilIface .nilIface) S H K := by
  refine VDet.mk _ (fun w _ => ?_) k
  simp [eqGuard, binOp, run_nil_nil h]
end
end Go.VC
namespace Go.Proofs.YtfbghcpdinlmcaaGreatDoor
open Go.VC
theorem m_eps_size (x : Value) (w : World) : (callMethod (.iface 98 x) "Size" #[]).run Tryz.prog w = .ok (.enter 271 #[x]) w := by kernel_rfl
theorem m_cls_size (x : Value) (w : World) : (callMethod (.iface 104 x) "Size" #[]).run Tryz.prog w = .ok (.enter 273 #[x]) w := by kernel_rfl
theorem m_cat_size (x : Value) (w : World) : (callMethod (.iface 105 x) "Size" #[]).run Tryz.prog w = .ok (.enter 275 #[x]) w := by kernel_rfl
theorem m_alt_size (x : Value) (w : World) : (callMethod (.iface 305 x) "Size" #[]).run Tryz.prog w = .ok (.enter 278 #[x]) w := by kernel_rfl
theorem m_star_size (x : Value) (w : World) : (callMethod (.iface 310 x) "Size" #[]).run Tryz.prog w = .ok (.enter 280 #[x]) w := by kernel_rfl
theorem m_and_size (x : Value) (w : World) : (callMethod (.iface 64 x) "Size" #[]).run Tryz.prog w = .ok (.enter 266 #[x]) w := by kernel_rfl
theorem m_minus_size (x : Value) (w : World) : (callMethod (.iface 65 x) "Size" #[]).run Tryz.prog w = .ok (.enter 269 #[x]) w := by kernel_rfl
end Go.Proofs.YtfbghcpdinlmcaaGreatDoor
/- Trees of expressions; the builder of layer 4 over trees without signs: the plain law and the walks. -/
set_option linter.unusedVariables false
set_option linter.unusedSimpArgs false
set_option maxRecDepth 100000
namespace Go.Proofs.YtfbghcpdinlmcaaGreatDoor
open Go.VC
inductive ReM
  | eps
  | cls (s : BitVec 256)
  | cat (a b : ReM)
  | alt (a b : ReM)
  | star (a : ReM)
  | and_ (a b : ReM)
  | minus (a b : ReM)
def nodeV : ReM → Value
  | .eps => .iface 98 (.agg #[])
  | .cls s => .iface 104 (setV s)
  | .cat a b => .iface 105 (.agg #[nodeV a, nodeV b])
  | .alt a b => .iface 305 (.agg #[nodeV a, nodeV b])
  | .star a => .iface 310 (.agg #[nodeV a])
  | .and_ a b => .iface 64 (.agg #[nodeV a, nodeV b])
  | .minus a b => .iface 65 (.agg #[nodeV a, nodeV b])
theorem nodeV_one (r : ReM) : (nodeV r).oneCell' = true := by cases r <;> rfl
def ReM.nodes : ReM → Nat
  | .eps => 1
  | .cls _ => 1
  | .cat a b => 1 + a.nodes + b.nodes
  | .alt a b => 1 + a.nodes + b.nodes
  | .star a => 1 + a.nodes
  | .and_ a b => 1 + a.nodes + b.nodes
  | .minus a b => 1 + a.nodes + b.nodes
def ReM.plain : ReM → Bool
  | .eps => true
  | .cls _ => true
  | .cat a b => a.plain && b.plain
  | .alt a b => a.plain && b.plain
  | .star a => a.plain
  | .and_ _ _ => false
  | .minus _ _ => false
/-- How many states a tree's automaton has. -/
def stM : ReM → Nat
  | .eps => 2
  | .cls _ => 2
  | .cat a b => stM a + stM b
  | .alt a b => stM a + stM b + 2
  | .star a => stM a + 2
  | .and_ _ _ => 0
  | .minus _ _ => 0
def silE (p q : Nat) : EdM := ⟨p, q, true, 0#256⟩
def setE (p q : Nat) (s : BitVec 256) : EdM := ⟨p, q, false, s⟩
/-- What a tree's rules make from state n on: the start, the end, the edges. -/
def bldM : ReM → Nat → Nat × Nat × List EdM
  | .eps, n => (n, n + 1, [silE n (n + 1)])
  | .cls s, n => (n, n + 1, [setE n (n + 1) s])
  | .cat a b, n => ((bldM a n).1, (bldM b (n + stM a)).2.1, (bldM a n).2.2 ++ (bldM b (n + stM a)).2.2 ++ [silE (bldM a n).2.1 (bldM b (n + stM a)).1])
  | .alt a b, n => (n, n + 1 + stM a + stM b, (bldM a (n + 1)).2.2 ++ (bldM b (n + 1 + stM a)).2.2 ++
      [silE n (bldM a (n + 1)).1, silE n (bldM b (n + 1 + stM a)).1, silE (bldM a (n + 1)).2.1 (n + 1 + stM a + stM b), silE (bldM b (n + 1 + stM a)).2.1 (n + 1 + stM a + stM b)])
  | .star a, n => (n, n + 1 + stM a, (bldM a (n + 1)).2.2 ++ [silE n (bldM a (n + 1)).1, silE n (n + 1 + stM a), silE (bldM a (n + 1)).2.1 (bldM a (n + 1)).1, silE (bldM a (n + 1)).2.1 (n + 1 + stM a)])
  | .and_ _ _, n => (n, n, [])
  | .minus _ _, n => (n, n, [])
theorem bldM_len : ∀ (r : ReM), r.plain = true → ∀ n, (bldM r n).2.2.length + 1 ≤ 2 * stM r
  | .eps, _, n => by simp [bldM, stM]
  | .cls _, _, n => by simp [bldM, stM]
  | .cat a b, h, n => by
    simp only [ReM.plain, Bool.and_eq_true] at h
    have h1 := bldM_len a h.1 n
    have h2 := bldM_len b h.2 (n + stM a)
    simp only [bldM, stM, List.length_append, List.length_cons, List.length_nil]; omega
  | .alt a b, h, n => by
    simp only [ReM.plain, Bool.and_eq_true] at h
    have h1 := bldM_len a h.1 (n + 1)
    have h2 := bldM_len b h.2 (n + 1 + stM a)
    simp only [bldM, stM, List.length_append, List.length_cons, List.length_nil]; omega
  | .star a, h, n => by
    have h1 := bldM_len a h (n + 1)
    simp only [bldM, stM, List.length_append, List.length_cons, List.length_nil]; omega
  | .and_ _ _, h, _ => by cases h
  | .minus _ _, h, _ => by cases h
/-- The ends lie among the states. -/
theorem bldM_in : ∀ (r : ReM), r.plain = true → ∀ n, n ≤ (bldM r n).1 ∧ (bldM r n).1 < n + stM r ∧ n ≤ (bldM r n).2.1 ∧ (bldM r n).2.1 < n + stM r
  | .eps, _, n => by simp only [bldM, stM]; omega
  | .cls _, _, n => by simp only [bldM, stM]; omega
  | .cat a b, h, n => by
    simp only [ReM.plain, Bool.and_eq_true] at h
    have h1 := bldM_in a h.1 n
    have h2 := bldM_in b h.2 (n + stM a)
    simp only [bldM, stM]; omega
  | .alt a b, h, n => by simp only [bldM, stM]; omega
  | .star a, h, n => by simp only [bldM, stM]; omega
  | .and_ _ _, h, _ => by cases h
  | .minus _ _, h, _ => by cases h
/-! ### the builder -/
def bdL (n : Nat) (v sub : Value) : List Value := [.int .i64 (n : Int), .int .i64 0, .int .i64 0, v, sub, .int .i64 0]
abbrev tBd : TypeId := 246
section
variable {B : Nat → Prop} {H0 H : Heap} {rest : List Pc} {bb n : Nat} {v sub : Value}
theorem bstate_v {K : Value → Heap → Prop} (st : StB B H0 H (pB tBd bb (bdL n v sub) :: rest)) (hn : n ≤ 2000000) (k : ∀ H', StB B H0 H' (pB tBd bb (bdL (n + 1) v sub) :: rest) → K (.int .i64 (n : Int)) H') :
    VCall Tryz.prog 175 #[.pointer (some ⟨bb, 0, none⟩)] H K := by
  refine VCall.mk (R := fun r H' => r = .int .i64 (n : Int) ∧ StB B H0 H' (pB tBd bb (bdL (n + 1) v sub) :: rest)) ?_ fun r H' ⟨h1, h2⟩ => by rw [h1]; exact k H' h2
  refine FnOk.of_vc Tryz.func175 rfl (Tryz.call175 _) ?_
  (conv => whnf); refine fa fl246_0 ?_
  (conv => whnf); refine fa fl76_0 ?_
  (conv => whnf); refine ld1 (v := .int .i64 (n : Int)) ct3 (by rw [(st.blk 0 rfl).cell]; rfl) trivial ?_
  (conv => whnf); rw [w64 (x := (n : Int) + 1) (by omega) (by omega)]
  (conv => whnf); refine fa fl246_0 ?_
  (conv => whnf); refine fa fl76_0 ?_
  (conv => whnf); refine st1B st 0 ct3 rfl (show 0 < 6 by decide) rfl fun H1 st1 => ?_
  (conv => whnf); refine fa fl246_0 ?_
  (conv => whnf); refine fa fl76_0 ?_
  (conv => whnf); refine ld1 (v := .int .i64 ((n : Int) + 1)) ct3 (by rw [(st1.blk 0 rfl).cell]; rfl) trivial ?_
  (conv => whnf); rw [w64 (x := (n : Int) + 1 - 1) (by omega) (by omega), show (n : Int) + 1 - 1 = (n : Int) by omega]
  (conv => whnf)
  exact ⟨rfl, st1⟩
theorem edge_ok {p q : Nat} (hp : p ≤ 2000000) (hq : q ≤ 2000000) (s : Bool) (t : BitVec 256) : (EdM.mk p q s t).Ok := ⟨inI64 (by omega), inI64 (by omega)⟩
theorem sil_build (p q : Nat) {S : Nat → Prop} {H : Heap} {K : Value → Prop} (k : K (.agg (edL (silE p q)).toArray)) :
    VDet Tryz.prog (Instr.build 174 [(0, .int .i64 (p : Int)), (1, .int .i64 (q : Int)), (2, .bool true)].toArray) S H K := by
  have e : edL (silE p q) = [.int .i64 (p : Int), .int .i64 (q : Int), .bool true, .int .u64 0, .int .u64 0, .int .u64 0, .int .u64 0] := by
    have h : ∀ i, wd 0#256 i = 0 := fun i => by unfold wd; simp
    simp [edL, silE, h]
  rw [e] at k
  exact vbuildS Tryz.underlying174 rfl _ edge_z _ (by kernel_rfl) k
theorem set_fill (x y : Int) (w0 w1 w2 w3 : Value) {S : Nat → Prop} {H : Heap} {K : Value → Prop} (h0 : w0.oneCell' = true) (h1 : w1.oneCell' = true) (h2 : w2.oneCell' = true) (h3 : w3.oneCell' = true) (k : K (.agg [.int .i64 x, .int .i64 y, .bool false, w0, w1, w2, w3].toArray)) :
    VDet Tryz.prog (Instr.build 174 [(0, .int .i64 x), (1, .int .i64 y), (3, .agg [w0, w1, w2, w3].toArray)].toArray) S H K :=
  vbuildS Tryz.underlying174 rfl _ edge_z [.int .i64 x, .int .i64 y, .bool false, w0, w1, w2, w3] (by kernel_rfl) k
theorem set_build (p q : Nat) (s : BitVec 256) {S : Nat → Prop} {H : Heap} {K : Value → Prop} (k : K (.agg (edL (setE p q s)).toArray)) :
    VDet Tryz.prog (Instr.build 174 [(0, .int .i64 (p : Int)), (1, .int .i64 (q : Int)), (3, .agg (setL s).toArray)].toArray) S H K := by
  unfold setE edL at k
  unfold setL
  exact set_fill _ _ _ _ _ _ rfl rfl rfl rfl k
theorem bsil_v {K : Value → Heap → Prop} {a : Option Addr} {c p q : Nat} {es : List EdM} (st : StB B H0 H (pB tBd bb (bdL n (.slice a es.length c) sub) :: pS tEd 174 a es.length c es :: rest)) (hp : p ≤ 2000000) (hq : q ≤ 2000000) (hl : es.length + 1 ≤ 4194304)
    (k : ∀ a' c' H', StB B H0 H' (pB tBd bb (bdL n (.slice a' (es ++ [silE p q]).length c') sub) :: pS tEd 174 a' (es ++ [silE p q]).length c' (es ++ [silE p q]) :: rest) → K (.tuple #[]) H') :
    VCall Tryz.prog 176 #[.pointer (some ⟨bb, 0, none⟩), .int .i64 (p : Int), .int .i64 (q : Int)] H K := by
  refine VCall.mk (R := fun r H' => r = .tuple #[] ∧ ∃ a' c', StB B H0 H' (pB tBd bb (bdL n (.slice a' (es ++ [silE p q]).length c') sub) :: pS tEd 174 a' (es ++ [silE p q]).length c' (es ++ [silE p q]) :: rest)) ?_ fun r H' ⟨h1, a', c', h2⟩ => by rw [h1]; exact k a' c' H' h2
  refine FnOk.of_vc Tryz.func176 rfl (Tryz.call176 _) ?_
  (conv => whnf); refine fa fl246_0 ?_
  (conv => whnf); refine fa fl76_3 ?_
  (conv => whnf); refine ld1 (v := .slice a es.length c) ct74 (by rw [(st.blk 0 rfl).cell]; rfl) trivial ?_
  (conv => whnf); refine sil_build p q ?_
  (conv => whnf); refine vbuild1 sl74 (edL (silE p q)) rfl rfl (by decide) (by decide) ?_
  intro y H1 hy hs1 hb1 ha1
  have st1 := st.skip hy ha1
  (conv => whnf); refine appO (ys := [silE p q]) st1 1 sl74 rfl (hb1.cells (o := 0) (cs := edL (silE p q)) fun j v hv => by rw [Nat.zero_add]; exact hv) (Ty.reps_one ⟨rfl, edge_ok hp hq _ _⟩) rfl (fun u hu => List.all_eq_true.1 (ed_ones _) u hu) (by simpa using hl) (by decide) fun a9 c9 H9 st9 _ => ?_
  (conv => whnf); refine fa fl246_0 ?_
  (conv => whnf); refine fa fl76_3 ?_
  (conv => whnf); refine st1B st9 0 ct74 rfl (show 3 < 6 by decide) rfl fun H10 st10 => ?_
  (conv => whnf)
  have el : es.length + [silE p q].length = (es ++ [silE p q]).length := by simp
  rw [el] at st10
  exact ⟨rfl, a9, c9, st10⟩
theorem btake_v {K : Value → Heap → Prop} {a : Option Addr} {c : Nat} {es : List EdM} {s : BitVec 256} (st : StB B H0 H (pB tBd bb (bdL n (.slice a es.length c) sub) :: pS tEd 174 a es.length c es :: rest)) (hn : n ≤ 1000000) (hl : es.length + 1 ≤ 4194304)
    (k : ∀ a' c' H', StB B H0 H' (pB tBd bb (bdL (n + 2) (.slice a' (es ++ [setE n (n + 1) s]).length c') sub) :: pS tEd 174 a' (es ++ [setE n (n + 1) s]).length c' (es ++ [setE n (n + 1) s]) :: rest) → K (.tuple #[.int .i64 (n : Int), .int .i64 ((n + 1 : Nat) : Int)]) H') :
    VCall Tryz.prog 177 #[.pointer (some ⟨bb, 0, none⟩), setV s] H K := by
  refine VCall.mk (R := fun r H' => r = .tuple #[.int .i64 (n : Int), .int .i64 ((n + 1 : Nat) : Int)] ∧ ∃ a' c', StB B H0 H' (pB tBd bb (bdL (n + 2) (.slice a' (es ++ [setE n (n + 1) s]).length c') sub) :: pS tEd 174 a' (es ++ [setE n (n + 1) s]).length c' (es ++ [setE n (n + 1) s]) :: rest)) ?_ fun r H' ⟨h1, a', c', h2⟩ => by rw [h1]; exact k a' c' H' h2
  refine FnOk.of_vc Tryz.func177 rfl (Tryz.call177 _) ?_
  (conv => whnf); refine vbox (setL s) rfl ?_
  intro x H1 hx hs1 hb1 ha1
  have st1 := (st.box hx hs1 hb1 ha1).perm (List.perm_append_singleton _ _)
  have st2 : StB B H0 H1 (pB tBd bb (bdL n (.slice a es.length c) sub) :: pB 101 x (setL s) :: pS tEd 174 a es.length c es :: rest) := st1.perm (List.Perm.swap _ _ _)
  (conv => whnf); refine bstate_v st2 (by omega) fun H3 st3 => ?_
  (conv => whnf); refine bstate_v st3 (by omega) fun H4 st4 => ?_
  have hdis := st4.apart2 (i := 0) (j := 2) rfl rfl (by decide)
  have hdis2 := st4.apart2 (i := 1) (j := 2) rfl rfl (by decide)
  (conv => whnf); refine VDraw.heldZ (fun k => k < H4.size ∧ ¬ slB (.slice a es.length c) k) [15] (sq [0,1,2,3,4,5,6,7,8,9] (.f 10 (.f 11 (sq [12,13,14] (.f 15 .e))))) rfl (by kernel_rfl) ?_
  have hb4 : bb < H4.size ∧ ¬ slB (.slice a es.length c) bb := ⟨(st4.in_ 0 rfl rfl).2, fun h => hdis bb rfl (.inl h)⟩
  have hx4 : x < H4.size ∧ ¬ slB (.slice a es.length c) x := ⟨(st4.in_ 1 rfl rfl).2, fun h => hdis2 x rfl (.inl h)⟩
  (conv => whnf); refine fa fl246_0 ?_
  (conv => whnf); refine fa fl76_3 ?_
  (conv => whnf); refine ld1 (v := .slice a es.length c) ct74 (by rw [(st4.blk 0 rfl).cell]; rfl) hb4 ?_
  (conv => whnf); refine ldN (cs := setL s) ag101 ((st4.blk 1 rfl).cells fun j v hv => by rw [Nat.zero_add]; exact hv) hx4 ?_
  (conv => whnf); refine set_build n (n + 1) s ?_
  (conv => whnf); refine vbuild1 sl74 (edL (setE n (n + 1) s)) rfl rfl (by decide) (by decide) ?_
  intro y H5 hy hs5 hb5 ha5
  have st5 := st4.skip hy ha5
  refine ⟨ha5.mono fun k hk => by have := hk.1; omega, ?_⟩
  (conv => whnf); refine appO (ys := [setE n (n + 1) s]) st5 2 sl74 rfl (hb5.cells (o := 0) (cs := edL (setE n (n + 1) s)) fun j v hv => by rw [Nat.zero_add]; exact hv) (Ty.reps_one ⟨rfl, edge_ok (by omega) (by omega) _ _⟩) rfl (fun u hu => List.all_eq_true.1 (ed_ones _) u hu) (by simpa using hl) (by decide) fun a9 c9 H9 st9 ha9 => ?_
  refine ⟨(ha5.mono fun k hk => by have := hk.1; omega).trans (ha9.mono fun k hk => ⟨by have := hk.1; omega, hk.2⟩), ?_⟩
  (conv => whnf); refine fa fl246_0 ?_
  (conv => whnf); refine fa fl76_3 ?_
  (conv => whnf); refine st1B st9 0 ct74 rfl (show 3 < 6 by decide) rfl fun H10 st10 => ?_
  (conv => whnf)
  have el : es.length + [setE n (n + 1) s].length = (es ++ [setE n (n + 1) s]).length := by simp
  rw [el] at st10
  exact ⟨rfl, a9, c9, (st10.perm (List.Perm.swap _ _ _)).sub (List.sublist_cons_self _ _)⟩
end
theorem node_z1 : (Tryz.prog.info? 98).bind (·.zero) = some (.agg #[]) := rfl
theorem node_z2 : (Tryz.prog.info? 104).bind (·.zero) = some (.agg #[.int .u64 0, .int .u64 0, .int .u64 0, .int .u64 0]) := rfl
theorem node_z3 : (Tryz.prog.info? 105).bind (·.zero) = some (.agg #[.nilIface, .nilIface]) := rfl
theorem node_z4 : (Tryz.prog.info? 305).bind (·.zero) = some (.agg #[.nilIface, .nilIface]) := rfl
theorem node_z5 : (Tryz.prog.info? 310).bind (·.zero) = some (.agg #[.nilIface]) := rfl
set_option maxHeartbeats 16000000 in
theorem part_c {B : Nat → Prop} {H0 : Heap} {bb : Nat} {sub : Value} : ∀ (r : ReM), r.plain = true → ∀ {H : Heap} {rest : List Pc} {n : Nat} {a : Option Addr} {c : Nat} {es : List EdM} (st : StB B H0 H (pB tBd bb (bdL n (.slice a es.length c) sub) :: pS tEd 174 a es.length c es :: rest)), n + stM r ≤ 1000000 → es.length + 2 * stM r ≤ 4000000 →
    FnOk Tryz.prog 138 #[.pointer (some ⟨bb, 0, none⟩), nodeV r] H fun v H' => v = .tuple #[.int .i64 ((bldM r n).1 : Nat), .int .i64 ((bldM r n).2.1 : Nat)] ∧ ∃ a' c', StB B H0 H' (pB tBd bb (bdL (n + stM r) (.slice a' (es ++ (bldM r n).2.2).length c') sub) :: pS tEd 174 a' (es ++ (bldM r n).2.2).length c' (es ++ (bldM r n).2.2) :: rest) := fun r => by
  induction r with
  | eps =>
    intro hpl H rest n a c es st hn hl
    simp only [stM] at hn hl
    refine FnOk.of_vc Tryz.func138 rfl (Tryz.call138 _) ?_
    (conv => whnf); refine fa fl246_2 ?_
    (conv => whnf); refine ld1 (v := .int .i64 0) ct24 (by rw [(st.blk 0 rfl).cell]; rfl) trivial ?_
    (conv => whnf); refine vta_yes Tryz.underlying98 (by intro ms h; cases h) ?_
    (conv => whnf); refine valloc (.agg #[]) [] rfl rfl ?_
    intro x H1 hx hs1 hb1 ha1
    have st1 : StB B H0 H1 (pB 98 x [] :: pB tBd bb (bdL n (.slice a es.length c) sub) :: pS tEd 174 a es.length c es :: rest) := (st.box hx hs1 hb1 ha1).perm (List.perm_append_singleton _ _)
    (conv => whnf); refine stNB (cs := []) st1 0 rfl rfl (Nat.le_refl _) rfl fun H2 st2 => ?_
    have st3 : StB B H0 H2 (pB tBd bb (bdL n (.slice a es.length c) sub) :: pS tEd 174 a es.length c es :: rest) := st2.sub (List.sublist_cons_self _ _)
    (conv => whnf); refine bstate_v st3 (by omega) fun H4 st4 => ?_
    (conv => whnf); refine bstate_v st4 (by omega) fun H5 st5 => ?_
    (conv => whnf); refine bsil_v st5 (by omega) (by omega) (by omega) fun a' c' H6 st6 => ?_
    (conv => whnf)
    exact ⟨rfl, a', c', st6⟩
  | cls s =>
    intro hpl H rest n a c es st hn hl
    simp only [stM] at hn hl
    refine FnOk.of_vc Tryz.func138 rfl (Tryz.call138 _) ?_
    (conv => whnf); refine fa fl246_2 ?_
    (conv => whnf); refine ld1 (v := .int .i64 0) ct24 (by rw [(st.blk 0 rfl).cell]; rfl) trivial ?_
    (conv => whnf); refine vta_no Tryz.underlying98 (by intro ms h; cases h) node_z1 (by decide) ?_
    (conv => whnf); refine vta_yes Tryz.underlying104 (by intro ms h; cases h) ?_
    (conv => whnf); refine valloc _ [.int .u64 0, .int .u64 0, .int .u64 0, .int .u64 0] node_z2 rfl ?_
    intro x H1 hx hs1 hb1 ha1
    have st1 : StB B H0 H1 (pB 104 x [.int .u64 0, .int .u64 0, .int .u64 0, .int .u64 0] :: pB tBd bb (bdL n (.slice a es.length c) sub) :: pS tEd 174 a es.length c es :: rest) := (st.box hx hs1 hb1 ha1).perm (List.perm_append_singleton _ _)
    (conv => whnf); refine stNB (cs := setL s) st1 0 rfl rfl (Nat.le_refl _) rfl fun H2 st2 => ?_
    rw [splice_all (show (setL s).length = 4 from rfl)] at st2
    (conv => whnf); refine fa fl104_0 ?_
    (conv => whnf); refine ldN (cs := setL s) ag101 ((st2.blk 0 rfl).cells fun j v hv => by simpa using hv) trivial ?_
    have st3 : StB B H0 H2 (pB tBd bb (bdL n (.slice a es.length c) sub) :: pS tEd 174 a es.length c es :: rest) := st2.sub (List.sublist_cons_self _ _)
    (conv => whnf); refine btake_v st3 (by omega) (by omega) fun a' c' H4 st4 => ?_
    (conv => whnf)
    exact ⟨rfl, a', c', st4⟩
  | cat r1 r2 ih1 ih2 =>
    intro hpl H rest n a c es st hn hl
    simp only [ReM.plain, Bool.and_eq_true] at hpl
    simp only [stM] at hn hl
    have l1 := bldM_len r1 hpl.1 n
    have l2 := bldM_len r2 hpl.2 (n + stM r1)
    have i1 := bldM_in r1 hpl.1 n
    have i2 := bldM_in r2 hpl.2 (n + stM r1)
    refine FnOk.of_vc Tryz.func138 rfl (Tryz.call138 _) ?_
    (conv => whnf); refine fa fl246_2 ?_
    (conv => whnf); refine ld1 (v := .int .i64 0) ct24 (by rw [(st.blk 0 rfl).cell]; rfl) trivial ?_
    (conv => whnf); refine vta_no Tryz.underlying98 (by intro ms h; cases h) node_z1 (by decide) ?_
    (conv => whnf); refine vta_no Tryz.underlying104 (by intro ms h; cases h) node_z2 (by decide) ?_
    (conv => whnf); refine vta_yes Tryz.underlying105 (by intro ms h; cases h) ?_
    (conv => whnf); refine valloc _ [.nilIface, .nilIface] node_z3 rfl ?_
    intro x H1 hx hs1 hb1 ha1
    have st1 : StB B H0 H1 (pB 105 x [.nilIface, .nilIface] :: pB tBd bb (bdL n (.slice a es.length c) sub) :: pS tEd 174 a es.length c es :: rest) := (st.box hx hs1 hb1 ha1).perm (List.perm_append_singleton _ _)
    (conv => whnf); refine stNB (cs := [nodeV r1, nodeV r2]) st1 0 rfl rfl (Nat.le_refl _) (by simp [nodeV_one]) fun H2 st2 => ?_
    rw [splice_all (show [nodeV r1, nodeV r2].length = 2 from rfl)] at st2
    (conv => whnf); refine fa fl105_0 ?_
    (conv => whnf); refine ld1 (v := nodeV r1) ct28 (by rw [(st2.blk 0 rfl).cell]; rfl) trivial ?_
    have st3 : StB B H0 H2 (pB tBd bb (bdL n (.slice a es.length c) sub) :: pS tEd 174 a es.length c es :: pB 105 x [nodeV r1, nodeV r2] :: rest) := st2.pickN 3 [1, 2, 0] (by decide)
    (conv => whnf); refine VCall.mk (ih1 hpl.1 st3 (by omega) (by omega)) ?_
    rintro _ H4 ⟨rfl, a4, c4, st4⟩
    (conv => whnf); refine fa fl105_1 ?_
    (conv => whnf); refine ld1 (v := nodeV r2) ct28 (by rw [(st4.blk 2 rfl).cell]; rfl) trivial ?_
    (conv => whnf); refine VCall.mk (ih2 hpl.2 st4 (by omega) (by rw [List.length_append]; omega)) ?_
    rintro _ H5 ⟨rfl, a5, c5, st5⟩
    (conv => whnf); refine bsil_v st5 (by omega) (by omega) (by rw [List.length_append, List.length_append]; omega) fun a6 c6 H6 st6 => ?_
    (conv => whnf)
    have e1 : es ++ (bldM r1 n).2.2 ++ (bldM r2 (n + stM r1)).2.2 ++ [silE (bldM r1 n).2.1 (bldM r2 (n + stM r1)).1] = es ++ (bldM (.cat r1 r2) n).2.2 := by simp [bldM]
    rw [e1, Nat.add_assoc] at st6
    exact ⟨rfl, a6, c6, st6.pickN 3 [0, 1] (by decide)⟩
  | alt r1 r2 ih1 ih2 =>
    intro hpl H rest n a c es st hn hl
    simp only [ReM.plain, Bool.and_eq_true] at hpl
    simp only [stM] at hn hl
    have l1 := bldM_len r1 hpl.1 (n + 1)
    have l2 := bldM_len r2 hpl.2 (n + 1 + stM r1)
    have i1 := bldM_in r1 hpl.1 (n + 1)
    have i2 := bldM_in r2 hpl.2 (n + 1 + stM r1)
    refine FnOk.of_vc Tryz.func138 rfl (Tryz.call138 _) ?_
    (conv => whnf); refine fa fl246_2 ?_
    (conv => whnf); refine ld1 (v := .int .i64 0) ct24 (by rw [(st.blk 0 rfl).cell]; rfl) trivial ?_
    (conv => whnf); refine vta_no Tryz.underlying98 (by intro ms h; cases h) node_z1 (by decide) ?_
    (conv => whnf); refine vta_no Tryz.underlying104 (by intro ms h; cases h) node_z2 (by decide) ?_
    (conv => whnf); refine vta_no Tryz.underlying105 (by intro ms h; cases h) node_z3 (by decide) ?_
    (conv => whnf); refine vta_yes Tryz.underlying305 (by intro ms h; cases h) ?_
    (conv => whnf); refine valloc _ [.nilIface, .nilIface] node_z4 rfl ?_
    intro x H1 hx hs1 hb1 ha1
    have st1 : StB B H0 H1 (pB 305 x [.nilIface, .nilIface] :: pB tBd bb (bdL n (.slice a es.length c) sub) :: pS tEd 174 a es.length c es :: rest) := (st.box hx hs1 hb1 ha1).perm (List.perm_append_singleton _ _)
    (conv => whnf); refine stNB (cs := [nodeV r1, nodeV r2]) st1 0 rfl rfl (Nat.le_refl _) (by simp [nodeV_one]) fun H2 st2 => ?_
    rw [splice_all (show [nodeV r1, nodeV r2].length = 2 from rfl)] at st2
    have st3 : StB B H0 H2 (pB tBd bb (bdL n (.slice a es.length c) sub) :: pS tEd 174 a es.length c es :: pB 305 x [nodeV r1, nodeV r2] :: rest) := st2.pickN 3 [1, 2, 0] (by decide)
    (conv => whnf); refine bstate_v st3 (by omega) fun H4 st4 => ?_
    (conv => whnf); refine fa fl305_0 ?_
    (conv => whnf); refine ld1 (v := nodeV r1) ct28 (by rw [(st4.blk 2 rfl).cell]; rfl) trivial ?_
    (conv => whnf); refine VCall.mk (ih1 hpl.1 st4 (by omega) (by omega)) ?_
    rintro _ H5 ⟨rfl, a5, c5, st5⟩
    (conv => whnf); refine fa fl305_1 ?_
    (conv => whnf); refine ld1 (v := nodeV r2) ct28 (by rw [(st5.blk 2 rfl).cell]; rfl) trivial ?_
    (conv => whnf); refine VCall.mk (ih2 hpl.2 st5 (by omega) (by rw [List.length_append]; omega)) ?_
    rintro _ H6 ⟨rfl, a6, c6, st6⟩
    (conv => whnf); refine bstate_v st6 (by omega) fun H7 st7 => ?_
    (conv => whnf); refine bsil_v st7 (by omega) (by omega) (by simp only [List.length_append]; omega) fun a8 c8 H8 st8 => ?_
    (conv => whnf); refine bsil_v st8 (by omega) (by omega) (by simp only [List.length_append, List.length_cons, List.length_nil]; omega) fun a9 c9 H9 st9 => ?_
    (conv => whnf); refine bsil_v st9 (by omega) (by omega) (by simp only [List.length_append, List.length_cons, List.length_nil]; omega) fun a10 c10 H10 st10 => ?_
    (conv => whnf); refine bsil_v st10 (by omega) (by omega) (by simp only [List.length_append, List.length_cons, List.length_nil]; omega) fun a11 c11 H11 st11 => ?_
    (conv => whnf)
    have e1 : es ++ (bldM r1 (n + 1)).2.2 ++ (bldM r2 (n + 1 + stM r1)).2.2 ++ [silE n (bldM r1 (n + 1)).1] ++ [silE n (bldM r2 (n + 1 + stM r1)).1] ++ [silE (bldM r1 (n + 1)).2.1 (n + 1 + stM r1 + stM r2)] ++ [silE (bldM r2 (n + 1 + stM r1)).2.1 (n + 1 + stM r1 + stM r2)] = es ++ (bldM (.alt r1 r2) n).2.2 := by simp [bldM]
    rw [e1, show n + 1 + stM r1 + stM r2 + 1 = n + stM (.alt r1 r2) by simp only [stM]; omega] at st11
    exact ⟨rfl, a11, c11, st11.pickN 3 [0, 1] (by decide)⟩
  | star r1 ih1 =>
    intro hpl H rest n a c es st hn hl
    have hpl1 : r1.plain = true := hpl
    simp only [stM] at hn hl
    have l1 := bldM_len r1 hpl1 (n + 1)
    have i1 := bldM_in r1 hpl1 (n + 1)
    refine FnOk.of_vc Tryz.func138 rfl (Tryz.call138 _) ?_
    (conv => whnf); refine fa fl246_2 ?_
    (conv => whnf); refine ld1 (v := .int .i64 0) ct24 (by rw [(st.blk 0 rfl).cell]; rfl) trivial ?_
    (conv => whnf); refine vta_no Tryz.underlying98 (by intro ms h; cases h) node_z1 (by decide) ?_
    (conv => whnf); refine vta_no Tryz.underlying104 (by intro ms h; cases h) node_z2 (by decide) ?_
    (conv => whnf); refine vta_no Tryz.underlying105 (by intro ms h; cases h) node_z3 (by decide) ?_
    (conv => whnf); refine vta_no Tryz.underlying305 (by intro ms h; cases h) node_z4 (by decide) ?_
    (conv => whnf); refine vta_yes Tryz.underlying310 (by intro ms h; cases h) ?_
    (conv => whnf); refine valloc _ [.nilIface] node_z5 rfl ?_
    intro x H1 hx hs1 hb1 ha1
    have st1 : StB B H0 H1 (pB 310 x [.nilIface] :: pB tBd bb (bdL n (.slice a es.length c) sub) :: pS tEd 174 a es.length c es :: rest) := (st.box hx hs1 hb1 ha1).perm (List.perm_append_singleton _ _)
    (conv => whnf); refine stNB (cs := [nodeV r1]) st1 0 rfl rfl (Nat.le_refl _) (by simp [nodeV_one]) fun H2 st2 => ?_
    rw [splice_all (show [nodeV r1].length = 1 from rfl)] at st2
    have st3 : StB B H0 H2 (pB tBd bb (bdL n (.slice a es.length c) sub) :: pS tEd 174 a es.length c es :: pB 310 x [nodeV r1] :: rest) := st2.pickN 3 [1, 2, 0] (by decide)
    (conv => whnf); refine bstate_v st3 (by omega) fun H4 st4 => ?_
    (conv => whnf); refine fa fl310_0 ?_
    (conv => whnf); refine ld1 (v := nodeV r1) ct28 (by rw [(st4.blk 2 rfl).cell]; rfl) trivial ?_
    (conv => whnf); refine VCall.mk (ih1 hpl1 st4 (by omega) (by omega)) ?_
    rintro _ H5 ⟨rfl, a5, c5, st5⟩
    (conv => whnf); refine bstate_v st5 (by omega) fun H7 st7 => ?_
    (conv => whnf); refine bsil_v st7 (by omega) (by omega) (by simp only [List.length_append]; omega) fun a8 c8 H8 st8 => ?_
    (conv => whnf); refine bsil_v st8 (by omega) (by omega) (by simp only [List.length_append, List.length_cons, List.length_nil]; omega) fun a9 c9 H9 st9 => ?_
    (conv => whnf); refine bsil_v st9 (by omega) (by omega) (by simp only [List.length_append, List.length_cons, List.length_nil]; omega) fun a10 c10 H10 st10 => ?_
    (conv => whnf); refine bsil_v st10 (by omega) (by omega) (by simp only [List.length_append, List.length_cons, List.length_nil]; omega) fun a11 c11 H11 st11 => ?_
    (conv => whnf)
    have e1 : es ++ (bldM r1 (n + 1)).2.2 ++ [silE n (bldM r1 (n + 1)).1] ++ [silE n (n + 1 + stM r1)] ++ [silE (bldM r1 (n + 1)).2.1 (bldM r1 (n + 1)).1] ++ [silE (bldM r1 (n + 1)).2.1 (n + 1 + stM r1)] = es ++ (bldM (.star r1) n).2.2 := by simp [bldM]
    rw [e1, show n + 1 + stM r1 + 1 = n + stM (.star r1) by simp only [stM]; omega] at st11
    exact ⟨rfl, a11, c11, st11.pickN 3 [0, 1] (by decide)⟩
  | and_ => intro h; cases h
  | minus => intro h; cases h
end Go.Proofs.YtfbghcpdinlmcaaGreatDoor
/- The document's Begin, Go, Reach, Accepts of nondeterministic automata: the walks. -/
set_option linter.unusedVariables false
set_option linter.unusedSimpArgs false
set_option maxRecDepth 100000
namespace Go.VC
section
variable {α : Type} {T : Ty α} {e : TypeId} {a : Option Addr} {n cap : Nat} {xs ys : List α} {B S : Nat → Prop} {H0 H : Heap} {ps : List Pc}
end
end Go.VC
namespace Go.Proofs.YtfbghcpdinlmcaaGreatDoor
open Go.VC
/-! ### settled -/
/-- What has been gathered. -/
structure GthR (a : NfM) (L out : List Int) : Prop where
  nd : out.Nodup
  sub : ∀ q ∈ L, q ∈ out
  cl : ∀ q ∈ out, clS a (· ∈ L) q
end Go.Proofs.YtfbghcpdinlmcaaGreatDoor
/- The document's Reach and Accepts, nfa.Accepts: the walks. -/
set_option linter.unusedVariables false
set_option linter.unusedSimpArgs false
set_option maxRecDepth 100000
namespace Go.Proofs.YtfbghcpdinlmcaaGreatDoor
open Go.VC
/-! ### nfa.Accepts -/
end Go.Proofs.YtfbghcpdinlmcaaGreatDoor
/- Trees of texts; Size, Text, Build over trees without signs: the walks. -/
set_option linter.unusedVariables false
set_option linter.unusedSimpArgs false
set_option maxRecDepth 100000
namespace Go.Proofs.YtfbghcpdinlmcaaGreatDoor
open Go.VC
def nodeT : ReM → TypeId
  | .eps => 98
  | .cls _ => 104
  | .cat _ _ => 105
  | .alt _ _ => 305
  | .star _ => 310
  | .and_ _ _ => 64
  | .minus _ _ => 65
def nodeP : ReM → Value
  | .eps => .agg #[]
  | .cls s => setV s
  | .cat a b => .agg #[nodeV a, nodeV b]
  | .alt a b => .agg #[nodeV a, nodeV b]
  | .star a => .agg #[nodeV a]
  | .and_ a b => .agg #[nodeV a, nodeV b]
  | .minus a b => .agg #[nodeV a, nodeV b]
theorem nodeV_eq (r : ReM) : nodeV r = .iface (nodeT r) (nodeP r) := by cases r <;> rfl
def sizeF : ReM → FuncId
  | .eps => 271
  | .cls _ => 273
  | .cat _ _ => 275
  | .alt _ _ => 278
  | .star _ => 280
  | .and_ _ _ => 266
  | .minus _ _ => 269
theorem size_m (r : ReM) (w : World) : (callMethod (.iface (nodeT r) (nodeP r)) "Size" #[]).run Tryz.prog w = .ok (.enter (sizeF r) #[nodeP r]) w := by
  cases r with
  | eps => exact m_eps_size _ w
  | cls => exact m_cls_size _ w
  | cat => exact m_cat_size _ w
  | alt => exact m_alt_size _ w
  | star => exact m_star_size _ w
  | and_ => exact m_and_size _ w
  | minus => exact m_minus_size _ w
theorem sure_p (r : ReM) (H : Heap) : Pure Tryz.prog 267 #[nodeV r] H (.iface (nodeT r) (nodeP r)) := by
  rw [nodeV_eq]
  refine FnOk.of_vc Tryz.func267 rfl (Tryz.call267 _) ?_
  (conv => whnf); refine ifeq Tryz.underlying28 ?_
  (conv => whnf)
  exact ⟨rfl, Agr.refl _ _⟩
set_option maxHeartbeats 4000000 in
theorem size_p : ∀ (r : ReM), r.nodes ≤ 1000000000 → ∀ (H : Heap), Pure Tryz.prog (sizeF r) #[nodeP r] H (.int .i64 (r.nodes : Int)) := fun r => by
  induction r with
  | eps =>
    intro hn H
    refine FnOk.of_vc Tryz.func271 rfl (Tryz.call271 _) ?_
    (conv => whnf); refine vbox [] rfl ?_
    intro x H1 hx hs1 hb1 ha1
    have st1 := (St.nil H).box hx hs1 hb1 ha1
    (conv => whnf)
    exact ⟨rfl, st1.old⟩
  | cls s =>
    intro hn H
    refine FnOk.of_vc Tryz.func273 rfl (Tryz.call273 _) ?_
    (conv => whnf); refine vbox (setL s) rfl ?_
    intro x H1 hx hs1 hb1 ha1
    have st1 := (St.nil H).box hx hs1 hb1 ha1
    (conv => whnf)
    exact ⟨rfl, st1.old⟩
  | cat a b iha ihb =>
    intro hn H
    simp only [ReM.nodes] at hn
    refine FnOk.of_vc Tryz.func275 rfl (Tryz.call275 _) ?_
    (conv => whnf); refine vbox [nodeV a, nodeV b] rfl ?_
    intro x H1 hx hs1 hb1 ha1
    have st1 := (St.nil H).box hx hs1 hb1 ha1
    have hxl := hb1.lt
    (conv => whnf); refine VDraw.heldZ (Old H1) [] (sq [0,1,5,6] (.f 2 (.f 3 (sq [4] (.f 7 (.f 8 (sq [9] (.f 10 .e)))))))) rfl (by kernel_rfl) ?_
    (conv => whnf); refine fa fl105_0 ?_
    (conv => whnf); refine ld1 (v := nodeV a) ct28 (by rw [hb1.cell]; rfl) hxl ?_
    (conv => whnf); refine fa fl105_1 ?_
    (conv => whnf); refine ld1 (v := nodeV b) ct28 (by rw [hb1.cell]; rfl) hxl ?_
    (conv => whnf); refine pures (sure_p a H1) fun H2 ha2 => ?_
    refine ⟨ha2, ?_⟩
    (conv => whnf); refine VInv.mk (sizeF a) #[nodeP a] (size_m a) (iha (by omega) H2) ?_
    rintro _ H3 ⟨rfl, ha3⟩
    have h13 := ha2.trans (ha3.mono fun k hk => old_lt ha2 hk)
    refine ⟨h13, ?_⟩
    (conv => whnf); rw [w64 (x := 1 + (a.nodes : Int)) (by omega) (by omega)]
    (conv => whnf); refine pures (sure_p b H3) fun H4 ha4 => ?_
    have h14 := h13.trans (ha4.mono fun k hk => old_lt h13 hk)
    refine ⟨h14, ?_⟩
    (conv => whnf); refine VInv.mk (sizeF b) #[nodeP b] (size_m b) (ihb (by omega) H4) ?_
    rintro _ H5 ⟨rfl, ha5⟩
    have h15 := h14.trans (ha5.mono fun k hk => old_lt h14 hk)
    refine ⟨h15, ?_⟩
    (conv => whnf); rw [w64 (x := 1 + (a.nodes : Int) + (b.nodes : Int)) (by omega) (by omega)]
    refine ⟨h15, ?_⟩
    (conv => whnf)
    exact ⟨by simp only [ReM.nodes]; simp, st1.old.trans (h15.mono fun k hk => st1.up hk)⟩
  | alt a b iha ihb =>
    intro hn H
    simp only [ReM.nodes] at hn
    refine FnOk.of_vc Tryz.func278 rfl (Tryz.call278 _) ?_
    (conv => whnf); refine vbox [nodeV a, nodeV b] rfl ?_
    intro x H1 hx hs1 hb1 ha1
    have st1 := (St.nil H).box hx hs1 hb1 ha1
    have hxl := hb1.lt
    (conv => whnf); refine VDraw.heldZ (Old H1) [] (sq [0,1,5,6] (.f 2 (.f 3 (sq [4] (.f 7 (.f 8 (sq [9] (.f 10 .e)))))))) rfl (by kernel_rfl) ?_
    (conv => whnf); refine fa fl305_0 ?_
    (conv => whnf); refine ld1 (v := nodeV a) ct28 (by rw [hb1.cell]; rfl) hxl ?_
    (conv => whnf); refine fa fl305_1 ?_
    (conv => whnf); refine ld1 (v := nodeV b) ct28 (by rw [hb1.cell]; rfl) hxl ?_
    (conv => whnf); refine pures (sure_p a H1) fun H2 ha2 => ?_
    refine ⟨ha2, ?_⟩
    (conv => whnf); refine VInv.mk (sizeF a) #[nodeP a] (size_m a) (iha (by omega) H2) ?_
    rintro _ H3 ⟨rfl, ha3⟩
    have h13 := ha2.trans (ha3.mono fun k hk => old_lt ha2 hk)
    refine ⟨h13, ?_⟩
    (conv => whnf); rw [w64 (x := 1 + (a.nodes : Int)) (by omega) (by omega)]
    (conv => whnf); refine pures (sure_p b H3) fun H4 ha4 => ?_
    have h14 := h13.trans (ha4.mono fun k hk => old_lt h13 hk)
    refine ⟨h14, ?_⟩
    (conv => whnf); refine VInv.mk (sizeF b) #[nodeP b] (size_m b) (ihb (by omega) H4) ?_
    rintro _ H5 ⟨rfl, ha5⟩
    have h15 := h14.trans (ha5.mono fun k hk => old_lt h14 hk)
    refine ⟨h15, ?_⟩
    (conv => whnf); rw [w64 (x := 1 + (a.nodes : Int) + (b.nodes : Int)) (by omega) (by omega)]
    refine ⟨h15, ?_⟩
    (conv => whnf)
    exact ⟨by simp only [ReM.nodes]; simp, st1.old.trans (h15.mono fun k hk => st1.up hk)⟩
  | star a iha =>
    intro hn H
    simp only [ReM.nodes] at hn
    refine FnOk.of_vc Tryz.func280 rfl (Tryz.call280 _) ?_
    (conv => whnf); refine vbox [nodeV a] rfl ?_
    intro x H1 hx hs1 hb1 ha1
    have st1 := (St.nil H).box hx hs1 hb1 ha1
    (conv => whnf); refine fa fl310_0 ?_
    (conv => whnf); refine ld1 (v := nodeV a) ct28 (by rw [hb1.cell]; rfl) trivial ?_
    (conv => whnf); refine pures (sure_p a H1) fun H2 ha2 => ?_
    have st2 := st1.call ha2
    (conv => whnf); refine VInv.mk (sizeF a) #[nodeP a] (size_m a) (iha (by omega) H2) ?_
    rintro _ H3 ⟨rfl, ha3⟩
    have st3 := st2.call ha3
    (conv => whnf); rw [w64 (x := 1 + (a.nodes : Int)) (by omega) (by omega)]
    (conv => whnf)
    exact ⟨by simp only [ReM.nodes]; simp, st3.old⟩
  | and_ a b iha ihb =>
    intro hn H
    simp only [ReM.nodes] at hn
    refine FnOk.of_vc Tryz.func266 rfl (Tryz.call266 _) ?_
    (conv => whnf); refine vbox [nodeV a, nodeV b] rfl ?_
    intro x H1 hx hs1 hb1 ha1
    have st1 := (St.nil H).box hx hs1 hb1 ha1
    have hxl := hb1.lt
    (conv => whnf); refine VDraw.heldZ (Old H1) [] (sq [0,1,5,6] (.f 2 (.f 3 (sq [4] (.f 7 (.f 8 (sq [9] (.f 10 .e)))))))) rfl (by kernel_rfl) ?_
    (conv => whnf); refine fa fl64_0 ?_
    (conv => whnf); refine ld1 (v := nodeV a) ct28 (by rw [hb1.cell]; rfl) hxl ?_
    (conv => whnf); refine fa fl64_1 ?_
    (conv => whnf); refine ld1 (v := nodeV b) ct28 (by rw [hb1.cell]; rfl) hxl ?_
    (conv => whnf); refine pures (sure_p a H1) fun H2 ha2 => ?_
    refine ⟨ha2, ?_⟩
    (conv => whnf); refine VInv.mk (sizeF a) #[nodeP a] (size_m a) (iha (by omega) H2) ?_
    rintro _ H3 ⟨rfl, ha3⟩
    have h13 := ha2.trans (ha3.mono fun k hk => old_lt ha2 hk)
    refine ⟨h13, ?_⟩
    (conv => whnf); rw [w64 (x := 1 + (a.nodes : Int)) (by omega) (by omega)]
    (conv => whnf); refine pures (sure_p b H3) fun H4 ha4 => ?_
    have h14 := h13.trans (ha4.mono fun k hk => old_lt h13 hk)
    refine ⟨h14, ?_⟩
    (conv => whnf); refine VInv.mk (sizeF b) #[nodeP b] (size_m b) (ihb (by omega) H4) ?_
    rintro _ H5 ⟨rfl, ha5⟩
    have h15 := h14.trans (ha5.mono fun k hk => old_lt h14 hk)
    refine ⟨h15, ?_⟩
    (conv => whnf); rw [w64 (x := 1 + (a.nodes : Int) + (b.nodes : Int)) (by omega) (by omega)]
    refine ⟨h15, ?_⟩
    (conv => whnf)
    exact ⟨by simp only [ReM.nodes]; simp, st1.old.trans (h15.mono fun k hk => st1.up hk)⟩
  | minus a b iha ihb =>
    intro hn H
    simp only [ReM.nodes] at hn
    refine FnOk.of_vc Tryz.func269 rfl (Tryz.call269 _) ?_
    (conv => whnf); refine vbox [nodeV a, nodeV b] rfl ?_
    intro x H1 hx hs1 hb1 ha1
    have st1 := (St.nil H).box hx hs1 hb1 ha1
    have hxl := hb1.lt
    (conv => whnf); refine VDraw.heldZ (Old H1) [] (sq [0,1,5,6] (.f 2 (.f 3 (sq [4] (.f 7 (.f 8 (sq [9] (.f 10 .e)))))))) rfl (by kernel_rfl) ?_
    (conv => whnf); refine fa fl65_0 ?_
    (conv => whnf); refine ld1 (v := nodeV a) ct28 (by rw [hb1.cell]; rfl) hxl ?_
    (conv => whnf); refine fa fl65_1 ?_
    (conv => whnf); refine ld1 (v := nodeV b) ct28 (by rw [hb1.cell]; rfl) hxl ?_
    (conv => whnf); refine pures (sure_p a H1) fun H2 ha2 => ?_
    refine ⟨ha2, ?_⟩
    (conv => whnf); refine VInv.mk (sizeF a) #[nodeP a] (size_m a) (iha (by omega) H2) ?_
    rintro _ H3 ⟨rfl, ha3⟩
    have h13 := ha2.trans (ha3.mono fun k hk => old_lt ha2 hk)
    refine ⟨h13, ?_⟩
    (conv => whnf); rw [w64 (x := 1 + (a.nodes : Int)) (by omega) (by omega)]
    (conv => whnf); refine pures (sure_p b H3) fun H4 ha4 => ?_
    have h14 := h13.trans (ha4.mono fun k hk => old_lt h13 hk)
    refine ⟨h14, ?_⟩
    (conv => whnf); refine VInv.mk (sizeF b) #[nodeP b] (size_m b) (ihb (by omega) H4) ?_
    rintro _ H5 ⟨rfl, ha5⟩
    have h15 := h14.trans (ha5.mono fun k hk => old_lt h14 hk)
    refine ⟨h15, ?_⟩
    (conv => whnf); rw [w64 (x := 1 + (a.nodes : Int) + (b.nodes : Int)) (by omega) (by omega)]
    refine ⟨h15, ?_⟩
    (conv => whnf)
    exact ⟨by simp only [ReM.nodes]; simp, st1.old.trans (h15.mono fun k hk => st1.up hk)⟩
/-! ### Build -/
theorem stM_nodes : ∀ r : ReM, stM r ≤ 2 * r.nodes
  | .eps => by simp [stM, ReM.nodes]
  | .cls _ => by simp [stM, ReM.nodes]
  | .cat a b => by have := stM_nodes a; have := stM_nodes b; simp only [stM, ReM.nodes]; omega
  | .alt a b => by have := stM_nodes a; have := stM_nodes b; simp only [stM, ReM.nodes]; omega
  | .star a => by have := stM_nodes a; simp only [stM, ReM.nodes]; omega
  | .and_ a b => by simp [stM]
  | .minus a b => by simp [stM]
def nfaOf (r : ReM) : NfM := ⟨(stM r : Int), ((bldM r 0).1 : Int), ((bldM r 0).2.1 : Int), (bldM r 0).2.2⟩
def zeroNf : Value := .agg #[.int .i64 0, .int .i64 0, .int .i64 0, .slice none 0 0]
/-- What Build of a plain tree answers. -/
def BldR (H H' : Heap) (r : ReM) (v : Value) : Prop := Agr (Old H) H H' ∧ if 2000 < r.nodes then v = .tuple #[zeroNf, .int .i64 24] else
  ∃ ea ec, v = .tuple #[.agg (nfL (nfaOf r) (.slice ea (nfaOf r).edges.length ec)).toArray, .int .i64 0] ∧ SlO tEd none_ H' H.size 174 (.slice ea (nfaOf r).edges.length ec) (nfaOf r).edges
theorem bd_z : (Tryz.prog.info? 246).bind (·.zero) = some (.agg #[.int .i64 0, .int .i64 0, .int .i64 0, .slice none 0 0, .nilFunc, .int .i64 0]) := rfl
/-! ### texts -/
def ofB (x : BitVec 256) (l : List Nat) : BitVec 256 := l.foldl (fun x b => x ||| BitVec.twoPow 256 b) x
set_option maxHeartbeats 4000000 in
theorem of_p (s : ByteArray) (hs : s.size ≤ 1048576) (H : Heap) : Pure Tryz.prog 48 #[.string s] H (setV (ofB 0#256 (byN s))) := by
  refine FnOk.of_vc Tryz.func48 rfl (Tryz.call48 _) ?_
  (conv => whnf); refine valloc (setV 0) (setL 0) rfl rfl ?_
  intro r H1 hr hs1 hb1 ha1
  have st1 := (St.nil H).box hr hs1 hb1 ha1
  (conv => whnf); refine valloc (setV 0) (setL 0) rfl rfl ?_
  intro p H2 hp hs2 hb2 ha2
  have st2 := st1.box hp hs2 hb2 ha2
  (conv => whnf)
  refine VLoop.mk [7] (fun i : Nat => [.int .i64 (i : Int)]) (fun i H3 => i ≤ s.size ∧ St H H3 [pB 101 r (setL 0), pB 101 p (setL (ofB 0#256 ((byN s).take i)))]) (fun i _ => s.size - i) ?_ ?_
  · (conv => whnf)
    exact ⟨0, rfl, Nat.zero_le _, st2⟩
  · rintro i H3 junk ⟨hi, st3⟩
    (conv => whnf); refine VIte.mk (fun h => ?_) (fun h => ?_) <;> simp only [decide_eq_true_eq, decide_eq_false_iff_not] at h
    · obtain ⟨c, hc⟩ := getB (s := s) (k := i) (by omega)
      obtain ⟨b, hb⟩ : ∃ b, b = c.toNat := ⟨_, rfl⟩
      have hb256 : b < 256 := by rw [hb]; exact UInt8.toNat_lt c
      obtain ⟨x, hx⟩ : ∃ x, x = ofB 0#256 ((byN s).take i) := ⟨_, rfl⟩
      have hnext : ofB 0#256 ((byN s).take (i + 1)) = x ||| BitVec.twoPow 256 b := by
        rw [take_succ_snoc (byN_get hc), hx, hb]
        unfold ofB
        rw [List.foldl_append]
        rfl
      rw [← hx] at st3
      have hbp := st3.blk 1 rfl
      have hpl := (st3.in_ 1 rfl rfl).2
      (conv => whnf); refine VDraw.heldZ (Old H3) [13] (sq [0,1,2,3,4,5,6,7,8,9,10,11,12] (.f 13 .e)) rfl (by kernel_rfl) ?_
      (conv => whnf); refine vidxs Tryz.underlying9 rfl hc ?_
      rw [← hb]
      (conv => whnf); refine vshr (b := 6) (by decide) ?_
      (conv => whnf); refine ixa ar101 (by omega) (by omega) ?_
      (conv => whnf); refine ld1 ct99 (v := .int .u64 (wd x (b / 64))) (by rw [hbp.cell, Nat.zero_add, Nat.mul_one]; exact setL_get x b (by omega)) hpl ?_
      (conv => whnf); refine vidxs Tryz.underlying9 rfl hc ?_
      rw [← hb]
      (conv => whnf); refine vand (b := 63) (inU8 hb256) (inU8 (by decide)) ?_
      have hpow : 2 ^ (b % 64) < 2 ^ 64 := Nat.pow_lt_pow_right (by decide) (by omega)
      rw [and63]
      have hin : inK .u64 ((1 * 2 ^ (b % 64) : Nat) : Int) := inU64 (by omega)
      (conv => whnf); refine vshl (a := 1) (by simp [IntKind.bits]; omega) hin ?_
      (conv => whnf); refine vor (wd_in x _) hin ?_
      (conv => whnf); refine ixa ar101 (by omega) (by omega) ?_
      (conv => whnf); refine st1B st3 1 ct99 rfl (by simp [setL]; omega) rfl fun H4 st4 => ?_
      (conv => whnf); rw [w64 (x := (i : Int) + 1) (by omega) (by omega)]
      refine ⟨rfl, i + 1, by simp, ⟨by omega, ?_⟩, by omega⟩
      rw [hnext, ← setL_put x b (by omega)]
      rw [Nat.zero_add, Nat.mul_one, Nat.one_mul] at st4
      exact st4
    · obtain rfl : i = s.size := by omega
      rw [List.take_of_length_le (by rw [byN_len]; exact Nat.le_refl _)] at st3
      generalize ofB 0#256 (byN s) = x at *
      (conv => whnf); refine ldN (cs := setL x) ag101 ((st3.blk 1 rfl).cells fun j v hv => by rw [Nat.zero_add]; exact hv) trivial ?_
      (conv => whnf); refine stNB (cs := setL x) st3 0 rfl rfl (Nat.le_refl _) rfl fun H4 st4 => ?_
      rw [splice_all (show (setL x).length = (setL 0).length from rfl)] at st4
      (conv => whnf); refine ldN (cs := setL x) ag101 ((st4.blk 0 rfl).cells fun j v hv => by rw [Nat.zero_add]; exact hv) trivial ?_
      exact ⟨rfl, st4.old⟩
def oneS (b : Nat) : BitVec 256 := ofB 0#256 [b]
def textR : List Nat → ReM
  | [] => .eps
  | b :: l => l.foldl (fun r c => .cat r (.cls (oneS c))) (.cls (oneS b))
theorem textR_snoc {l : List Nat} (h : l ≠ []) (c : Nat) : textR (l ++ [c]) = .cat (textR l) (.cls (oneS c)) := by
  cases l with
  | nil => exact absurd rfl h
  | cons b l => simp [textR, List.foldl_append]
theorem textR_plain (l : List Nat) : (textR l).plain = true := by
  cases l with
  | nil => rfl
  | cons b l =>
    unfold textR
    have key : ∀ (l : List Nat) (r : ReM), r.plain = true → (l.foldl (fun r c => ReM.cat r (.cls (oneS c))) r).plain = true := by
      intro l
      induction l with
      | nil => exact fun r h => h
      | cons c l ih => exact fun r h => ih _ (by simp [ReM.plain, h])
    exact key l _ rfl
theorem textR_nodes : ∀ (l : List Nat), (textR l).nodes + 1 = max 2 (2 * l.length) := by
  intro l
  cases l with
  | nil => rfl
  | cons b l =>
    unfold textR
    have key : ∀ (l : List Nat) (r : ReM), (l.foldl (fun r c => ReM.cat r (.cls (oneS c))) r).nodes = r.nodes + 2 * l.length := by
      intro l
      induction l with
      | nil => exact fun r => rfl
      | cons c l ih => intro r; rw [List.foldl_cons, ih]; simp only [ReM.nodes, List.length_cons]; omega
    rw [key]
    simp only [ReM.nodes, List.length_cons]
    omega
def textV (l : List Nat) : Value := match l with | [] => .nilIface | _ => nodeV (textR l)
theorem ext_one {s : ByteArray} {i : Nat} {c : UInt8} (h : s.data[i]? = some c) : byN (s.extract i (i + 1)) = [c.toNat] := by
  have hi := (Array.getElem?_eq_some_iff.1 h).1
  unfold byN
  rw [ByteArray.data_extract, Array.toList_extract, List.extract_eq_take_drop]
  have : (s.data.toList.drop i).take (i + 1 - i) = [c] := by
    rw [show i + 1 - i = 1 by omega]
    have h2 : s.data.toList[i]? = some c := by rw [Array.getElem?_toList]; exact h
    obtain ⟨h3, h4⟩ := List.getElem?_eq_some_iff.1 h2
    rw [List.drop_eq_getElem_cons h3, h4]
    rfl
  rw [this]
  rfl
set_option maxHeartbeats 8000000 in
theorem text_p (s : ByteArray) (hs : s.size ≤ 1048576) (H : Heap) : Pure Tryz.prog 15 #[.string s] H (nodeV (textR (byN s))) := by
  refine FnOk.of_vc Tryz.func15 rfl (Tryz.call15 _) ?_
  have hbl := byN_len s
  by_cases he : s.size = 0
  · have hnil : byN s = [] := List.eq_nil_of_length_eq_zero (by omega)
    have hse : s = ⟨#[]⟩ := text_inj (by
      have : s.data.toList = [] := List.eq_nil_of_length_eq_zero (by rw [Array.length_toList]; exact he)
      rw [this])
    have d0 : (s.toList == (⟨#[]⟩ : ByteArray).toList) = true := by rw [hse]; simp
    (conv => whnf); rw [d0]
    (conv => whnf); refine vbuildS Tryz.underlying98 rfl _ node_z1 [] rfl ?_
    (conv => whnf)
    exact ⟨by rw [hnil]; rfl, Agr.refl _ _⟩
  · have d0 : (s.toList == (⟨#[]⟩ : ByteArray).toList) = false := by
      cases h : (s.toList == (⟨#[]⟩ : ByteArray).toList) with
      | false => rfl
      | true =>
        rw [text_eq] at h
        rw [h] at he
        exact absurd rfl he
    (conv => whnf); rw [d0]
    (conv => whnf)
    refine VLoop.mk [3, 12] (fun i : Nat => [textV ((byN s).take i), .int .i64 (i : Int)]) (fun i H2 => i ≤ s.size ∧ St H H2 []) (fun i _ => s.size - i) ?_ ?_
    · (conv => whnf)
      exact ⟨0, rfl, Nat.zero_le _, St.nil H⟩
    · rintro i H2 junk ⟨hi, st2⟩
      (conv => whnf); refine VIte.mk (fun hz => ?_) (fun hz => ?_) <;> simp only [decide_eq_true_eq, decide_eq_false_iff_not] at hz
      · obtain ⟨c, hc⟩ := getB (s := s) (k := i) (by omega)
        have w1 : IntKind.wrap .i64 ((i : Int) + 1) = ((i + 1 : Nat) : Int) := by rw [w64 (by omega) (by omega)]; omega
        (conv => whnf); refine VSeq.run ?_
        (conv => whnf); rw [w1]
        (conv => whnf); refine vcutS (l := (i : Int)) (h := ((i + 1 : Nat) : Int)) Tryz.underlying9 (by omega) (by omega) (by omega) ?_
        rw [Int.toNat_natCast, Int.toNat_natCast]
        (conv => whnf); refine pures (of_p (s.extract i (i + 1)) (by simp; omega) H2) fun H3 ha3 => ?_
        have st3 := st2.call ha3
        rw [ext_one hc]
        (conv => whnf); refine vbuildS Tryz.underlying104 rfl _ node_z2 (setL (oneS c.toNat)) (by unfold setL; kernel_rfl) ?_
        (conv => whnf); refine valloc _ [.int .u64 0, .int .u64 0, .int .u64 0, .int .u64 0] node_z2 rfl ?_
        intro x H4 hx hs4 hb4 ha4
        have st4 := st3.box hx hs4 hb4 ha4
        (conv => whnf); refine stNB (cs := setL (oneS c.toNat)) st4 0 rfl rfl (Nat.le_refl _) rfl fun H5 st5 => ?_
        rw [splice_all (show (setL (oneS c.toNat)).length = 4 from rfl)] at st5
        have htk := take_succ_snoc (byN_get hc)
        have hb5 : Cells H5 x 0 (setL (oneS c.toNat)) := (st5.blk 0 rfl).cells fun j v hv => by rw [Nat.zero_add]; exact hv
        by_cases hi0 : i = 0
        · subst hi0
          (conv => whnf); refine ifeqN Tryz.underlying28 ?_
          (conv => whnf); refine ldN (cs := setL (oneS c.toNat)) ag104 hb5 trivial ?_
          (conv => whnf); rw [w1]
          refine ⟨rfl, 0 + 1, ?_, ⟨by omega, st5.pick [] (by decide)⟩, by omega⟩
          rw [htk]
          rfl
        · have hne : (byN s).take i ≠ [] := fun e => by
            have h := congrArg List.length e
            rw [List.length_take, hbl, List.length_nil] at h
            omega
          have htv : textV ((byN s).take i) = .iface (nodeT (textR ((byN s).take i))) (nodeP (textR ((byN s).take i))) := by
            rw [← nodeV_eq]
            cases h : (byN s).take i with
            | nil => exact absurd h hne
            | cons b l => rfl
          have htv2 : textV ((byN s).take (i + 1)) = .iface 105 (.agg #[.iface (nodeT (textR ((byN s).take i))) (nodeP (textR ((byN s).take i))), .iface 104 (setV (oneS c.toNat))]) := by
            have : textV ((byN s).take (i + 1)) = nodeV (textR ((byN s).take (i + 1))) := by
              cases h : (byN s).take (i + 1) with
              | nil =>
                have h9 := congrArg List.length h
                rw [List.length_take, hbl, List.length_nil] at h9
                omega
              | cons b l => rfl
            rw [this, htk, textR_snoc hne, ← nodeV_eq]
            rfl
          rw [htv]
          generalize nodeT (textR ((byN s).take i)) = NT at *
          generalize nodeP (textR ((byN s).take i)) = NP at *
          (conv => whnf); refine ifeq Tryz.underlying28 ?_
          (conv => whnf); refine ldN (cs := setL (oneS c.toNat)) ag104 hb5 trivial ?_
          (conv => whnf); refine vbuildS Tryz.underlying105 rfl _ node_z3 [.iface NT NP, .iface 104 (setV (oneS c.toNat))] rfl ?_
          (conv => whnf); rw [w1]
          refine ⟨rfl, i + 1, ?_, ⟨by omega, st5.pick [] (by decide)⟩, by omega⟩
          rw [htv2]
      · obtain rfl : i = s.size := by omega
        (conv => whnf)
        rw [List.take_of_length_le (by rw [hbl]; exact Nat.le_refl _)]
        refine ⟨?_, st2.old⟩
        cases h : byN s with
        | nil => rw [h] at hbl; simp at hbl; omega
        | cons b l => rfl
end Go.Proofs.YtfbghcpdinlmcaaGreatDoor
