/- Parts of the proof: PDet6, PDet7, PTabs, PRefA, PLives, PRefB, PSame5, PTables, PSameW, PCel1, PCOk, PReps, PNode, PGr, PFst, PAmbC, PCatI, PCel2, PBoth, PGam0, PMeg, PDDt, PAtEq, PDLw, PMin1, PMin2, PMin3, PMin4, PMin5, PMin6, PMin7, PMin8, PCan7, PSame7, PCan8, PCan9, PLay5, PBu, PBu2, PBu3, PShw1, PShw2, PShw3, PShw4, PShw5, PShw6, PNum, PTab0, PDec, PBfsG, PMin9, PMin10, PMin11, PAut09, PSpk, PCan10, POdd7, PNews, PCel3, PCan11, PLg1, VIf -/
import Derived.Test.YtfbghcpdinlmcaaGreatDoorKL3
import Derived.Test.YtfbghcpdinlmcaaGreatDoorKL2
import Derived.Test.YtfbghcpdinlmcaaGreatDoorKL1
import Derived.Shelf.Small.Strs
import Derived.Shelf.Strings.BuilderK
import Derived.Shelf.LaysM
import Derived.Shelf.Strconv.Itoa3
/- Explore over sets of states: the walk. -/
set_option linter.unusedVariables false
set_option linter.unusedSimpArgs false
set_option maxRecDepth 100000
namespace Go.Proofs.YtfbghcpdinlmcaaGreatDoor
open Go.VC
def HasF (a : NfM) (F : List (List Int)) : Prop := ∀ l ∈ F, (∀ q ∈ l, a.has q = true) ∧ l.length ≤ 65536
theorem HasF.rng {a : NfM} {F : List (List Int)} (h : HasF a F) : RngF F := fun l hl => ⟨fun q hq => by have := NfM.has_iff.1 ((h l hl).1 q hq); omega, (h l hl).2⟩
theorem stepA_len {a : NfM} {l : List Int} {b : Nat} : (stepA a l b).length ≤ 65536 := lstS_len _
theorem atF_mem {most : Nat} {F F' : List (List Int)} {k : List Int} {i : Nat} (h : atF most F k = some (F', i)) : ∀ x ∈ F', x ∈ F ∨ x = k := by
  intro x hx
  unfold atF at h
  split at h
  · injection h with h; injection h with h1 h2; subst h1; exact .inl hx
  · split at h
    · injection h with h; injection h with h1 h2; subst h1
      rcases List.mem_append.1 hx with hx | hx
      · exact .inl hx
      · rw [List.mem_singleton] at hx; exact .inr hx
    · cases h
theorem atF_len {most : Nat} {F F' : List (List Int)} {k : List Int} {i : Nat} (h : atF most F k = some (F', i)) (hl : F.length ≤ most) : F'.length ≤ most ∧ i < most := by
  unfold atF at h
  split at h
  · rename_i j hj
    injection h with h; injection h with h1 h2; subst h1; subst h2
    have := (List.findIdx?_eq_some_iff_getElem.1 hj).1
    omega
  · split at h
    · injection h with h; injection h with h1 h2; subst h1; subst h2
      simp only [List.length_append, List.length_cons, List.length_nil]; omega
    · cases h
theorem HasF.at_ {a : NfM} {most : Nat} {F F' : List (List Int)} {x : List Int} {b i : Nat} (h : HasF a F) (hx : atF most F (stepA a x b) = some (F', i)) : HasF a F' := fun l hl => by
  rcases atF_mem hx l hl with h1 | rfl
  · exact h l h1
  · exact ⟨stepA_rng, stepA_len⟩
def rowI (r : List Nat) : List Int := r.map fun (x : Nat) => (x : Int)
def bsOf (cs : List (BitVec 256)) : List Nat := cs.map fun c => (nextM c 0).1
theorem bsOf_get {cs : List (BitVec 256)} {j : Nat} {c : BitVec 256} (h : cs[j]? = some c) : (bsOf cs)[j]? = some (nextM c 0).1 := by
  unfold bsOf
  rw [List.getElem?_map, h]
  rfl
/-- What Explore answers. -/
noncomputable def ExpR (a : NfM) (most : Nat) (cs : List (BitVec 256)) (l0 : List Int) (H H' : Heap) (r : Value) : Prop := Agr (Old H) H H' ∧
  match detF most (stepA a) (bsOf cs) l0 with
  | none => r = .tuple #[.pointer none, .bool false]
  | some (F, rows) => ∃ v, r = .tuple #[v, .bool true] ∧ AutoV (fun k => H.size ≤ k ∧ k < H'.size) H' v (if soundB cs (rows.map rowI) F.length then some (madeM cs (rows.map rowI) (F.map fun l => decide (a.fin ∈ l))) else none)
set_option maxHeartbeats 16000000 in
theorem explore_c {S : Nat → Prop} {H : Heap} {a : NfM} {nv sv : Value} {wb pb : Nat} {ca : Option Addr} {cc most : Nat} {cs : List (BitVec 256)} {l0 : List Int} (hS : ∀ k, S k → k < H.size) (hwb : S wb) (hwc : Cells H wb 0 [nv]) (hnv : NetV S H nv a) (hpb : S pb) (hpc : Cells H pb 0 (nfL a sv)) (hel : a.edges.length ≤ 1048576) (hpow : PowH Tryz.prog H)
    (hcs : SlD tSet S H ca cc cs) (hcl : cs.length ≤ 256) (hl0 : ∀ q ∈ l0, a.has q = true) (hl0l : l0.length ≤ 65536) (hm1 : 1 ≤ most) (hm : most ≤ 4096) :
    FnOk Tryz.prog 95 #[.string (nmB l0), .slice ca cs.length cc, .func (.func 90) #[] #[.pointer (some ⟨wb, 0, none⟩)], .func (.func 93) #[] #[.pointer (some ⟨pb, 0, none⟩)], .int .i64 (most : Int)] H fun r H' => ExpR a most cs l0 H H' r := by
  have hF0 : HasF a [l0] := fun l hl => by rw [List.mem_singleton] at hl; subst hl; exact ⟨hl0, hl0l⟩
  refine FnOk.of_vc Tryz.func95 rfl (Tryz.call95 _) ?_
  (conv => whnf); refine mmakeW (Ok := anyK) (enc := Value.string) fun mb H1 hb1 hs1 hm1' ha1 => ?_
  have st1 := (St.nil H).mapNewW hb1 hs1 hm1' ha1
  (conv => whnf); refine vbuildS Tryz.underlying259 rfl (.agg #[.map none, .slice none 0 0, .int .i64 0]) rfl (exL mb (.slice none 0 0) most) rfl ?_
  (conv => whnf); refine vbox (exL mb (.slice none 0 0) most) rfl ?_
  intro xb H2 hxb hs2 hb2 ha2
  have st2 : St H H2 (exS xb mb none 0 most [] []) := ((st1.box hxb hs2 hb2 ha2).nils tStr 9).pick [1, 0, 2] (by decide)
  have hat0 : atF most ([] : List (List Int)) l0 = some ([l0], 0) := by
    unfold atF
    rw [List.findIdx?_nil]
    simp only
    rw [if_pos (by simp only [List.length_nil]; omega)]
    rfl
  (conv => whnf); refine at5_v st2 (fun l hl => by cases hl) (fun q hq => (hF0.rng l0 (by simp)).1 q hq) hl0l hm (Nat.zero_le _) (fun F' i fa' fc' H3 h1 st3 => ?_) (fun H3 h1 _ => ?_)
  · rw [hat0] at h1
    injection h1 with h1
    injection h1 with h1 h2
    subst h1; subst h2
    have st4 : St H H3 (exS xb mb fa' fc' most [l0] [pN (tSl tIk) none_ 41 none 0 0 [], pS tBool 4 none 0 0 []]) := (st3.nils (tSl tIk) 41).nils tBool 4
    (conv => whnf)
    refine VLoop.mk [15, 16, 17] (fun x : Nat × List (List Int) × List (List Nat) × Option Addr × Nat × Option Addr × Nat => match x with | (i, F, rows, na, nc, ba, bc) => [.slice na i nc, .slice ba i bc, .int .i64 (i : Int)])
      (fun x H4 => match x with | (i, F, rows, na, nc, ba, bc) => i ≤ F.length ∧ F.length ≤ most ∧ HasF a F ∧ rows.length = i ∧ rowsF most (stepA a) (bsOf cs) l0 i = some (F, rows) ∧ ∃ Sx fa fc, St H H4 (exS xb mb fa fc most F [pN (tSl tIk) Sx 41 na i nc (rows.map rowI), pS tBool 4 ba i bc ((F.take i).map fun l => decide (a.fin ∈ l))])) (fun x _ => most - x.1) ?_ ?_
    · (conv => whnf)
      exact ⟨(0, [l0], [], none, 0, none, 0), rfl, Nat.zero_le _, by simp only [List.length_cons, List.length_nil]; omega, hF0, rfl, rfl, none_, fa', fc', st4⟩
    · rintro ⟨i, F, rows, na, nc, ba, bc⟩ H4 junk4 ⟨hiF, hFm, hHF, hrl, hrun, Sx, fa, fc, st5⟩
      have hb5 := st5.blk 0 rfl
      (conv => whnf); refine VC.fa fl259_1 ?_
      (conv => whnf); refine ld1 (v := .slice fa F.length fc) ct257 (by rw [hb5.cell]; rfl) trivial ?_
      (conv => whnf); refine VIte.mk (fun hz => ?_) (fun hz => ?_) <;> simp only [decide_eq_true_eq, decide_eq_false_iff_not] at hz
      · obtain ⟨x, hx⟩ := get_some (l := F) (k := i) (by omega)
        obtain ⟨hxh, hxl⟩ := hHF x (List.mem_of_getElem? hx)
        have hnext : rowsF most (stepA a) (bsOf cs) l0 (i + 1) = ((bsOf cs).foldl (rowF most (stepA a) x) (some (F, []))).map fun r => (r.1, rows ++ [r.2]) := by
          show (rowsF most (stepA a) (bsOf cs) l0 i).bind _ = _
          rw [hrun]
          simp only [Option.bind_some, hx]
        (conv => whnf); refine vmake1 sl41 rfl (by omega) (by omega) (by omega) (by omega) ?_
        intro rb H6 hrb hs6 hb6 ha6
        rw [Int.toNat_natCast] at hb6
        rw [Int.toNat_natCast, show (0 : Int).toNat = 0 from rfl]
        have st6 := st5.newCap (T := tIk) (cap := cs.length) hrb hs6 hb6 ha6 (by simp [tInt]) (by unfold maxLen; omega)
        (conv => whnf)
        refine VLoop.mk [18, 51] (fun y : Nat × List (List Int) × List Nat × Option Addr × Nat => match y with | (j, F', row, ra, rc) => [.slice ra row.length rc, .int .i64 (j : Int)])
          (fun y H7 => match y with | (j, F', row, ra, rc) => j ≤ cs.length ∧ F'.length ≤ most ∧ HasF a F' ∧ F <+: F' ∧ row.length = j ∧ ((bsOf cs).take j).foldl (rowF most (stepA a) x) (some (F, [])) = some (F', row) ∧ ∃ fa fc, St H H7 (exS xb mb fa fc most F' [pN (tSl tIk) Sx 41 na i nc (rows.map rowI), pS tBool 4 ba i bc ((F.take i).map fun l => decide (a.fin ∈ l)), pS tIk 3 ra row.length rc (rowI row)])) (fun y _ => cs.length - y.1) ?_ ?_
        · (conv => whnf)
          exact ⟨(0, F, [], some ⟨rb, 0, none⟩, cs.length), rfl, Nat.zero_le _, hFm, hHF, List.prefix_refl _, rfl, rfl, fa, fc, st6⟩
        · rintro ⟨j, F', row, ra, rc⟩ H7 junk7 ⟨hj, hF'm, hHF', hpre, hrowl, hfold, fa7, fc7, st7⟩
          (conv => whnf); refine VIte.mk (fun hz2 => ?_) (fun hz2 => ?_) <;> simp only [decide_eq_true_eq, decide_eq_false_iff_not] at hz2
          · obtain ⟨c, hc⟩ := get_some (l := cs) (k := j) (by omega)
            have hbs := bsOf_get hc
            have hblt := nextM_lt c 0
            have hxF' := pre_get hpre hx
            (conv => whnf); refine ixr (i := j) sl106 (hcs.frame (st7.old.mono hS)) hc rfl ?_
            rintro b8 o8 cs8 hS8 hc8 rfl
            (conv => whnf); refine ldN (cs := setL c) ag101 hc8 trivial ?_
            (conv => whnf); refine valloc (setV 0) (setL 0) rfl rfl ?_
            intro sx H8 hsx hs8 hb8 ha8
            have st8 := st7.box hsx hs8 hb8 ha8
            (conv => whnf); refine stNB (cs := setL c) st8 6 rfl rfl (Nat.le_refl _) rfl fun H9 st9 => ?_
            rw [splice_all (show (setL c).length = (setL 0).length from rfl)] at st9
            (conv => whnf); refine ldN (cs := setL c) ag101 ((st9.blk 6 rfl).cells fun j v hv => by rw [Nat.zero_add]; exact hv) trivial ?_
            (conv => whnf); refine pures (next_p c 0 (by decide) H9) fun H10 ha10 => ?_
            have st10 := st9.call ha10
            have hb10 := st10.blk 0 rfl
            (conv => whnf); refine VC.fa fl259_1 ?_
            (conv => whnf); refine ld1 (v := .slice fa7 F'.length fc7) ct257 (by rw [hb10.cell]; rfl) trivial ?_
            have hview := st10.view 2 rfl
            have hgx : (F'.map nmB)[i]? = some (nmB x) := by rw [List.getElem?_map, hxF']; rfl
            (conv => whnf); refine ixrn (i := i) sl257 hview (List.length_map _).symm hgx rfl ?_
            rintro b11 o11 c11 hS11 hc11 ⟨rfl, -⟩
            (conv => whnf); refine ld1 ct9 hc11.one trivial ?_
            have up10 : ∀ k, S k → k < H10.size := fun k hk => st10.up (hS k hk)
            (conv => whnf); refine VCall.mk (step5_c (S := S) up10 hwb (hwc.eq (st10.old wb (hS wb hwb))) (hnv.frame (st10.old.mono hS)) hel hxh hxl hblt (hpow.agr st10.old)) ?_
            rintro _ H11 ⟨rfl, ha11⟩
            have st11 := st10.call ha11
            replace st11 : St H H11 (exS xb mb fa7 fc7 most F' [pN (tSl tIk) Sx 41 na i nc (rows.map rowI), pS tBool 4 ba i bc ((F.take i).map fun l => decide (a.fin ∈ l)), pS tIk 3 ra row.length rc (rowI row)]) := st11.pick [0, 1, 2, 3, 4, 5] (by decide)
            have hstep : ((bsOf cs).take (j + 1)).foldl (rowF most (stepA a) x) (some (F, [])) = (atF most F' (stepA a x (nextM c 0).1)).map fun r => (r.1, row ++ [r.2]) := by
              rw [take_succ_snoc hbs, List.foldl_append, hfold]
              rfl
            (conv => whnf); refine at5_v st11 hHF'.rng (fun q hq => by have := NfM.has_iff.1 (stepA_rng q hq); omega) stepA_len hm hF'm (fun F2 t fa12 fc12 H12 h12 st12 => ?_) (fun H12 h12 st12 => ?_)
            · obtain ⟨hl2, htm⟩ := atF_len h12 hF'm
              rw [h12] at hstep
              (conv => whnf); refine vbuild1 sl41 [.int .i64 (t : Int)] rfl rfl (by decide) (by decide) ?_
              intro q13 H13 hq13 hs13 hb13 ha13
              (conv => whnf); refine app1 (x := (t : Int)) (st12.skip hq13 ha13) 5 sl41 rfl hb13 ⟨rfl, kint ⟨by omega, by omega⟩⟩ rfl (by unfold rowI; rw [List.length_map]; omega) (by decide) fun a14 c14 H14 st14 _ => ?_
              have e1 : (rowI row).length + 1 = (row ++ [t]).length := by unfold rowI; simp
              have e2 : rowI row ++ [(t : Int)] = rowI (row ++ [t]) := by unfold rowI; simp
              rw [e1, e2] at st14
              rw [e1]
              (conv => whnf); rw [w64 (x := (j : Int) + 1) (by omega) (by omega)]
              exact ⟨rfl, (j + 1, F2, row ++ [t], a14, c14), by simp, ⟨by omega, hl2, hHF'.at_ h12, hpre.trans (by
                unfold atF at h12
                split at h12
                · injection h12 with h; injection h with h1 h2; subst h1; exact List.prefix_refl _
                · split at h12
                  · injection h12 with h; injection h with h1 h2; subst h1; exact List.prefix_append _ _
                  · cases h12), by simp [hrowl], hstep, fa12, fc12, st14⟩, by simp only; omega⟩
            · rw [h12] at hstep
              have hnone : (bsOf cs).foldl (rowF most (stepA a) x) (some (F, [])) = none := by
                have h3 := (List.take_append_drop (j + 1) (bsOf cs)).symm
                rw [h3, List.foldl_append, hstep]
                exact rowF_none x _
              have hdet : detF most (stepA a) (bsOf cs) l0 = none := detF_none (n := i) (by rw [hnext, hnone]; rfl) (by omega)
              (conv => whnf)
              refine ⟨st12.old, ?_⟩
              rw [hdet]
          · obtain rfl : j = cs.length := by omega
            have hfull : (bsOf cs).foldl (rowF most (stepA a) x) (some (F, [])) = some (F', row) := by
              rw [← hfold, List.take_of_length_le (by unfold bsOf; rw [List.length_map]; exact Nat.le_refl _)]
            rw [hfull] at hnext
            simp only [Option.map_some] at hnext
            have hxF' := pre_get hpre hx
            have hri : (rowI row).length = row.length := by unfold rowI; rw [List.length_map]
            have hrl2 : (rows.map rowI).length = i := by rw [List.length_map]; exact hrl
            have hend : ((F'.take (i + 1)).map fun l => decide (a.fin ∈ l)) = ((F.take i).map fun l => decide (a.fin ∈ l)) ++ [decide (a.fin ∈ x)] := by
              obtain ⟨t, rfl⟩ := hpre
              rw [List.take_append_of_le_length (by omega), take_succ_snoc hx, List.map_append]
              rfl
            have hel7 : ((F.take i).map fun l => decide (a.fin ∈ l)).length = i := by rw [List.length_map, List.length_take]; omega
            obtain ⟨ra', rc', er, hrow7, -⟩ := (st7.at_ 5 rfl).1.view (S' := slB (.slice ra row.length rc)) (fun b hb => hb) (fun b hb => hb.elim)
            injection er with er1 er2 er3
            subst er1; subst er3
            have st8 : St H H7 (pN (tSl tIk) (fun k => Sx k ∨ slB (.slice ra row.length rc) k) 41 na i nc (rows.map rowI) :: [pB tEx xb (exL mb (.slice fa7 F'.length fc7) most), pMW anyK Value.string mb (exM F'), pS tStr 9 fa7 F'.length fc7 (F'.map nmB), pS tBool 4 ba i bc ((F.take i).map fun l => decide (a.fin ∈ l))]) := StB.absorb (st7.pick [3, 5, 0, 1, 2, 4] (by decide))
            (conv => whnf); refine vbuild1 sl35 [.slice ra row.length rc] rfl rfl (by decide) (by decide) ?_
            intro q13 H13 hq13 hs13 hb13 ha13
            have st13 := st8.skip hq13 ha13
            have hrow13 : SlD tIk (fun k => Sx k ∨ slB (.slice ra row.length rc) k) H13 ra rc (rowI row) := (hrow7.frame (ha13.mono fun k hk => by
              have := (st7.in_ 5 rfl (.inl hk)).2
              omega)).mono fun k hk => .inr hk
            (conv => whnf); refine appNO (row := rowI row) st13 sl35 (hb13.cells fun j v hv => by rw [Nat.zero_add]; exact hv) ⟨ra, rc, by rw [hri], hrow13⟩ rfl (fun u hu => by cases List.mem_singleton.1 hu; rfl) (by rw [hrl2]; omega) (by decide) fun a14 c14 H14 st14 => ?_
            rw [hrl2] at st14 ⊢
            have hb14 := st14.blk 1 rfl
            (conv => whnf); refine VC.fa fl259_1 ?_
            (conv => whnf); refine ld1 (v := .slice fa7 F'.length fc7) ct257 (by rw [hb14.cell]; rfl) trivial ?_
            have hgx : (F'.map nmB)[i]? = some (nmB x) := by rw [List.getElem?_map, hxF']; rfl
            (conv => whnf); refine ixrn (i := i) sl257 (st14.view 3 rfl) (List.length_map _).symm hgx rfl ?_
            rintro b11 o11 c11 hS11 hc11 ⟨rfl, -⟩
            (conv => whnf); refine ld1 ct9 hc11.one trivial ?_
            have up14 : ∀ k, S k → k < H14.size := fun k hk => st14.up (hS k hk)
            (conv => whnf); refine pures (final5_p (S := S) up14 hpb (hpc.eq (st14.old pb (hS pb hpb))) (hHF.rng x (List.mem_of_getElem? hx)).1 hxl) fun H15 ha15 => ?_
            have st15 := st14.call ha15
            (conv => whnf); refine vbuild1 sl36 [.bool (decide (a.fin ∈ x))] rfl rfl (by decide) (by decide) ?_
            intro q16 H16 hq16 hs16 hb16 ha16
            (conv => whnf); refine app1 (x := decide (a.fin ∈ x)) (st15.skip hq16 ha16) 4 sl36 rfl hb16 rfl rfl (by rw [hel7]; omega) (by decide) fun a17 c17 H17 st17 _ => ?_
            rw [hel7, ← hend] at st17
            rw [hel7]
            (conv => whnf); rw [w64 (x := (i : Int) + 1) (by omega) (by omega)]
            refine ⟨rfl, (i + 1, F', rows ++ [row], a14, c14, a17, c17), by simp, ⟨?_, hF'm, hHF', by simp [hrl], hnext, (fun k => Sx k ∨ slB (.slice ra row.length rc) k), fa7, fc7, ?_⟩, by simp only; omega⟩
            · have := (List.getElem?_eq_some_iff.1 hxF').1
              omega
            · have e5 : rows.map rowI ++ [rowI row] = (rows ++ [row]).map rowI := by simp
              rw [e5] at st17
              exact st17.pick [1, 2, 3, 0, 4] (by decide)
      · obtain rfl : i = F.length := by omega
        rw [List.take_length] at st5
        have hrl2 : (rows.map rowI).length = F.length := by rw [List.length_map]; exact hrl
        have hdet := detF_done hrun rfl hFm
        have hnew := new_c ca na ba cc nc bc cs (rows.map rowI) (F.map fun l => decide (a.fin ∈ l)) (Old H4) H4 (fun k hk => hk) ((hcs.frame (st5.old.mono hS)).mono fun k hk => st5.up (hS k hk)) (st5.view 3 rfl) (st5.view 4 rfl)
        rw [hrl2, List.length_map] at hnew
        (conv => whnf); refine VCall.mk hnew ?_
        rintro v H6 ⟨ha6, hs6, hv6⟩
        have st6 := st5.call ha6
        (conv => whnf)
        refine ⟨st6.old, ?_⟩
        rw [hdet]
        exact ⟨v, rfl, hv6.mono fun k hk => ⟨Nat.le_trans (old_size st5.old) hk.1, hk.2⟩⟩
  · rw [hat0] at h1
    cases h1
end Go.Proofs.YtfbghcpdinlmcaaGreatDoor
/- dfa.Determinize: the walk. -/
set_option linter.unusedVariables false
set_option linter.unusedSimpArgs false
set_option maxRecDepth 100000
namespace Go.Proofs.YtfbghcpdinlmcaaGreatDoor
open Go.VC
theorem sum_set {β : Type} : ∀ (xs : List (List β)) (q : Nat) (row z : List β), xs[q]? = some row → ((xs.set q z).map List.length).sum + row.length = (xs.map List.length).sum + z.length
  | [], q, row, z, h => by simp at h
  | x :: xs, 0, row, z, h => by
    simp only [List.getElem?_cons_zero, Option.some.injEq] at h
    subst h
    simp only [List.set_cons_zero, List.map_cons, List.sum_cons]
    omega
  | x :: xs, q + 1, row, z, h => by
    rw [List.getElem?_cons_succ] at h
    have := sum_set xs q row z h
    simp only [List.set_cons_succ, List.map_cons, List.sum_cons]
    omega
theorem grp_far {β : Type} {n q : Nat} {key : EdM → Option (Nat × β)} {l : List EdM} {e : EdM} {y : β} (h : key e = some (q, y)) (hq : n ≤ q) : grp n key (l ++ [e]) = grp n key l := by
  unfold grp
  refine List.map_congr_left fun j hj => ?_
  rw [List.filterMap_append]
  have hjq : q ≠ j := by have := List.mem_range.1 hj; omega
  simp [h, hjq]
theorem grp_sum {β : Type} (n : Nat) (key : EdM → Option (Nat × β)) (l : List EdM) : ∀ k, k ≤ l.length → ((grp n key (l.take k)).map List.length).sum ≤ k := by
  intro k
  induction k with
  | zero =>
    intro _
    rw [List.take_zero, grp_nil, List.map_replicate]
    simp
  | succ k ih =>
    intro hk
    obtain ⟨e, he⟩ := get_some (l := l) (k := k) (by omega)
    have := ih (by omega)
    rw [take_succ_snoc he]
    cases hke : key e with
    | none => rw [grp_none hke]; omega
    | some p =>
      obtain ⟨q, y⟩ := p
      by_cases hq : q < n
      · obtain ⟨row, hrow⟩ := get_some (l := grp n key (l.take k)) (k := q) (by rw [grp_len]; exact hq)
        rw [grp_some hke hrow]
        have h2 := sum_set _ _ _ (row ++ [y]) hrow
        simp only [List.length_append, List.length_cons, List.length_nil] at h2
        omega
      · rw [grp_far hke (by omega)]; omega
/-- The sets that the ways take. -/
def setsA (a : NfM) : List (BitVec 256) := (takT a).flatMap fun r => r.map fun e => e.set
theorem flat_len {β γ : Type} (f : β → γ) : ∀ xs : List (List β), (xs.flatMap fun r => r.map f).length = (xs.map List.length).sum
  | [] => rfl
  | x :: xs => by rw [List.flatMap_cons, List.length_append, List.length_map, flat_len f xs, List.map_cons, List.sum_cons]
def setsTo (a : NfM) (i : Nat) : List (BitVec 256) := ((takT a).take i).flatMap fun r => r.map fun e => e.set
theorem setsTo_len (a : NfM) (i : Nat) : (setsTo a i).length ≤ a.edges.length := by
  unfold setsTo
  rw [flat_len]
  have h1 := grp_sum (nstA a) (keyT a) a.edges a.edges.length (Nat.le_refl _)
  rw [List.take_length] at h1
  have h2 : (((takT a).take i).map List.length).sum ≤ ((takT a).map List.length).sum := by
    conv => rhs; rw [← List.take_append_drop i (takT a)]
    rw [List.map_append, List.sum_append]
    omega
  unfold takT at h2 ⊢
  omega
/-- What Determinize answers, of a budget that may be. -/
noncomputable def DetR (a : NfM) (budget : Nat) (H H' : Heap) (r : Value) : Prop := Agr (Old H) H H' ∧
  match detF budget (stepA a) (repsM (setsA a)) (lstS (begS a)) with
  | none => r = .tuple #[.pointer none, .int .i64 40]
  | some (F, rows) => ∃ v, r = .tuple #[v, .int .i64 0] ∧ AutoV (fun k => H.size ≤ k ∧ k < H'.size) H' v (if soundB (atomsM (setsA a)) (rows.map rowI) F.length then some (madeM (atomsM (setsA a)) (rows.map rowI) (F.map fun l => decide (a.fin ∈ l))) else none)
set_option maxHeartbeats 16000000 in
theorem determinize_c {S : Nat → Prop} {H : Heap} {v : Value} {a : NfM} {budget : Nat} (hS : ∀ k, S k → k < H.size) (h : NfV S H v a) (hpow : PowH Tryz.prog H) (hb1 : 1 ≤ budget) (hb2 : budget ≤ 4096) :
    FnOk Tryz.prog 38 #[v, .int .i64 (budget : Int)] H fun r H' => DetR a budget H H' r := by
  have hr := h.1
  have hl := h.2.1
  have d1 : decide ((budget : Int) < 1) = false := decide_eq_false (by omega)
  have d2 : decide ((4096 : Int) < (budget : Int)) = false := decide_eq_false (by omega)
  have hnle := nstA_le a
  refine FnOk.of_vc Tryz.func38 rfl (Tryz.call38 _) ?_
  (conv => whnf); refine nf_box h fun ea ec he0 h1 => ?_
  subst he0
  intro p H1 hp hs1 hbb1 ha1
  have st1 := (St.nil H).box hp hs1 hbb1 ha1
  (conv => whnf); rw [d1]
  (conv => whnf); rw [d2]
  (conv => whnf); refine nf_load hr hl (st1.blk 0 rfl) ag76 trivial (h1.frame (st1.old.mono hS)) fun v2 hv2 => ?_
  (conv => whnf); refine VCall.mk (ready_c (fun k hk => st1.up (hS k hk)) hv2) ?_
  rintro nv H3 ⟨ha3, hnv⟩
  have st3 := st1.call ha3
  have hnv0 := hnv
  obtain ⟨nb, sa, sc, ta, tc, hne, hnb, hncells, hnsil, hntak⟩ := hnv
  subst hne
  (conv => whnf); refine valloc _ [.pointer none] rfl rfl ?_
  intro wb H4 hwb hs4 hb4 ha4
  have u4 : St H3 H4 [pB 168 wb [.pointer none]] := (St.nil H3).box hwb hs4 hb4 ha4
  (conv => whnf); refine st1B u4 0 ct168 rfl (show 0 < 1 by decide) rfl fun H5 u5 => ?_
  replace u5 : St H3 H5 [pB 168 wb [.pointer (some ⟨nb, 0, none⟩)]] := u5
  have u6 : St H3 H5 [pB 168 wb [.pointer (some ⟨nb, 0, none⟩)], pS tSet 101 none 0 0 []] := u5.nils tSet 101
  have htl : (takT a).length = nstA a := grp_len _ _ _
  have hT : ∀ i, (setsTo a i).length ≤ a.edges.length := fun i => setsTo_len a i
  (conv => whnf); refine ld1 (v := .pointer (some ⟨nb, 0, none⟩)) ct168 (by rw [(u6.blk 0 rfl).cell]; rfl) trivial ?_
  (conv => whnf); refine VC.fa fl172_1 ?_
  (conv => whnf); refine ld1 (v := .slice ta (nstA a) tc) ct170 ((hncells.eq (u6.old nb hnb)) 1 _ rfl) trivial ?_
  (conv => whnf)
  refine VLoop.mk [7, 30] (fun x : Nat × Option Addr × Nat => match x with | (i, a5, c5) => [.slice a5 (setsTo a i).length c5, .int .i64 (i : Int)])
    (fun x H6 => x.1 ≤ nstA a ∧ St H3 H6 [pB 168 wb [.pointer (some ⟨nb, 0, none⟩)], pS tSet 101 x.2.1 (setsTo a x.1).length x.2.2 (setsTo a x.1)]) (fun x _ => nstA a - x.1) ?_ ?_
  · (conv => whnf)
    exact ⟨(0, none, 0), rfl, Nat.zero_le _, u6⟩
  · rintro ⟨i, a5, c5⟩ H6 junk6 ⟨hi, u7⟩
    simp only at hi u7
    (conv => whnf); refine VIte.mk (fun hz => ?_) (fun hz => ?_) <;> simp only [decide_eq_true_eq, decide_eq_false_iff_not] at hz
    · obtain ⟨row, hrow⟩ := get_some (l := takT a) (k := i) (by omega)
      have hsucc : setsTo a (i + 1) = setsTo a i ++ row.map fun e => e.set := by
        unfold setsTo
        rw [take_succ_snoc hrow, List.flatMap_append]
        simp
      have hTi := hT (i + 1)
      rw [hsucc, List.length_append, List.length_map] at hTi
      (conv => whnf); refine ixrn (i := i) sl170 (hntak.frame u7.old) htl.symm hrow rfl ?_
      rintro b8 o8 c8 hS8 hc8 ⟨ra, rc, rfl, hrd2⟩
      have hrd : SlD tEd (Old H3) H6 ra rc row := hrd2
      (conv => whnf); refine ld1 ct74 hc8.one trivial ?_
      (conv => whnf)
      refine VLoop.mk [7, 36] (fun x : Nat × Option Addr × Nat => match x with | (j, a6, c6) => [.slice a6 (setsTo a i ++ (row.take j).map fun e => e.set).length c6, .int .i64 (j : Int)])
        (fun x H7 => x.1 ≤ row.length ∧ St H3 H7 [pB 168 wb [.pointer (some ⟨nb, 0, none⟩)], pS tSet 101 x.2.1 (setsTo a i ++ (row.take x.1).map fun e => e.set).length x.2.2 (setsTo a i ++ (row.take x.1).map fun e => e.set)]) (fun x _ => row.length - x.1) ?_ ?_
      · (conv => whnf)
        refine ⟨(0, a5, c5), by simp, Nat.zero_le _, ?_⟩
        simpa using u7
      · rintro ⟨j, a6, c6⟩ H7 junk7 ⟨hj, u8⟩
        simp only at hj u8
        have hrd7 : SlD tEd (Old H3) H7 ra rc row := htak_frame hrd u7 u8 (fun k hk => hk)
        (conv => whnf); refine VIte.mk (fun hz2 => ?_) (fun hz2 => ?_) <;> simp only [decide_eq_true_eq, decide_eq_false_iff_not] at hz2
        · obtain ⟨e, he⟩ := get_some (l := row) (k := j) (by omega)
          have hlen8 : (setsTo a i ++ (row.take j).map fun e => e.set).length ≤ 1048576 := by
            rw [List.length_append, List.length_map, List.length_take]; omega
          (conv => whnf); refine ixr (i := j) sl74 hrd7 he rfl ?_
          rintro b6 o6 c7 hS6 hc6 ⟨rfl, hok⟩
          (conv => whnf); refine ldN (cs := edL e) ag174 hc6 trivial ?_
          (conv => whnf); refine valloc _ [.int .i64 0, .int .i64 0, .bool false, .int .u64 0, .int .u64 0, .int .u64 0, .int .u64 0] edge_z rfl ?_
          intro x H8 hx hs8 hb8 ha8
          have u9 := u8.box hx hs8 hb8 ha8
          (conv => whnf); refine stNB (cs := edL e) u9 2 rfl rfl (Nat.le_refl _) rfl fun H9 u10 => ?_
          rw [splice_all (show (edL e).length = 7 from rfl)] at u10
          (conv => whnf); refine VC.fa fl174_3 ?_
          (conv => whnf); refine ldN (cs := setL e.set) ag101 ((u10.blk 2 rfl).cells fun j v hv => edL_set e j v hv) trivial ?_
          (conv => whnf); refine vbuild1 sl106 (setL e.set) rfl rfl (by decide) (by decide) ?_
          intro q11 H11 hq11 hs11 hb11 ha11
          (conv => whnf); refine appO (ys := [e.set]) (u10.skip hq11 ha11) 1 sl106 rfl (hb11.cells (o := 0) (cs := setL e.set) fun j v hv => by rw [Nat.zero_add]; exact hv) (Ty.reps_one rfl) rfl (fun u hu => List.all_eq_true.1 (show (setL e.set).all (·.oneCell') = true from rfl) u hu) (by simp only [List.length_cons, List.length_nil]; omega) (by decide) fun a12 c12 H12 u12 _ => ?_
          have e1 : (setsTo a i ++ (row.take j).map fun e => e.set) ++ [e.set] = setsTo a i ++ (row.take (j + 1)).map fun e => e.set := by rw [take_succ_snoc he]; simp
          have e2 : (setsTo a i ++ (row.take j).map fun e => e.set).length + [e.set].length = (setsTo a i ++ (row.take (j + 1)).map fun e => e.set).length := by rw [← e1]; exact List.length_append.symm
          rw [e1, e2] at u12
          rw [e2]
          (conv => whnf); rw [w64 (x := (j : Int) + 1) (by omega) (by omega)]
          exact ⟨rfl, (j + 1, a12, c12), by simp, ⟨by simp only; omega, u12.pick [0, 1] (by decide)⟩, by simp only; omega⟩
        · obtain rfl : j = row.length := by omega
          rw [List.take_length, ← hsucc] at u8
          rw [List.take_length, ← hsucc]
          (conv => whnf); rw [w64 (x := (i : Int) + 1) (by omega) (by omega)]
          exact ⟨rfl, (i + 1, a6, c6), by simp, ⟨by simp only; omega, u8⟩, by simp only; omega⟩
    · obtain rfl : i = nstA a := by omega
      have hall : setsTo a (nstA a) = setsA a := by unfold setsTo setsA; rw [← htl, List.take_length]
      have hTl := hT (nstA a)
      rw [hall] at u7 hTl
      rw [hall]
      have st7 : St H H6 [pB 76 p (nfL a (.slice ea a.edges.length ec))] := st3.call u7.old
      have hp7 := st7.blk 0 rfl
      have hw7 := u7.blk 0 rfl
      have hbeg : ∀ q ∈ lstS (begS a), a.has q = true := fun q hq => begS_has a q ((lstS_mem (has_rng (begS_has a)) q).1 hq)
      have hpow3 : PowH Tryz.prog H3 := hpow.agr st3.old
      have hnv6 : NetV (Old H6) H6 (.pointer (some ⟨nb, 0, none⟩)) a := (hnv0.frame u7.old).mono fun k hk => u7.up hk
      (conv => whnf)
      refine VSeq.cut (α := Unit) [12] (fun _ => [.string (nmB (lstS (begS a)))]) (fun _ H8 => Agr (Old H6) H6 H8) ?_ ?_
      · (conv => whnf); refine ld1 (v := .pointer (some ⟨nb, 0, none⟩)) ct168 (by rw [hw7.cell]; rfl) trivial ?_
        (conv => whnf); refine VC.fa fl76_1 ?_
        (conv => whnf); refine ld1 (v := .int .i64 a.start) ct3 (by rw [hp7.cell]; rfl) trivial ?_
        (conv => whnf); refine pures (nhas_p (hncells.eq (u7.old nb hnb))) fun H8 ha8 => ?_
        have st8 := st7.call ha8
        have u8 := u7.call ha8
        cases hst : a.has a.start with
        | false =>
          have e : lstS (begS a) = [] := by
            rw [lstS_uniq (X := begS a) (l := []) (has_rng (begS_has a)) List.Pairwise.nil fun q => ⟨fun h => (by cases h), fun h => by
              obtain ⟨r, ⟨-, h2⟩, -⟩ := h
              rw [hst] at h2; cases h2⟩]
          (conv => whnf)
          refine ⟨rfl, (), ?_, ha8⟩
          rw [e]
          rfl
        | true =>
          have hsr := NfM.has_iff.1 hst
          (conv => whnf); refine ld1 (v := .pointer (some ⟨nb, 0, none⟩)) ct168 (by rw [(u8.blk 0 rfl).cell]; rfl) trivial ?_
          (conv => whnf); refine VC.fa fl76_1 ?_
          (conv => whnf); refine ld1 (v := .int .i64 a.start) ct3 (by rw [(st8.blk 0 rfl).cell]; rfl) trivial ?_
          (conv => whnf); refine vbuild1 sl41 [.int .i64 a.start] rfl rfl (by decide) (by decide) ?_
          intro y H9 hy hs9 hb9 ha9
          have w9 : St H8 H9 [pS tIk 3 (some ⟨y, 0, none⟩) 1 1 [a.start]] := (St.nil H8).new (T := tIk) (n := 1) (xs := [a.start]) hy hs9 hb9 ha9 (Ty.reps_one ⟨rfl, kint ⟨hsr.1, by omega⟩⟩) rfl (by unfold maxLen; omega)
          (conv => whnf); refine VCall.mk (close_c (X := [a.start]) w9 (fun k hk => hk) ((hnv6.frame ha8).mono fun k hk => old_lt ha8 hk) (fun q hq => by rw [List.mem_singleton] at hq; subst hq; exact hst) (by simp only [List.length_cons, List.length_nil]; omega) hl (hpow3.agr (u8.old))) ?_
          rintro _ H10 ⟨rfl, ha10⟩
          have e : (fun q => q ∈ [a.start]) = fun q => q = a.start ∧ a.has a.start = true := funext fun q => propext (by simp [hst])
          (conv => whnf)
          refine ⟨rfl, (), ?_, ha8.trans (ha10.mono fun k hk => old_lt ha8 hk)⟩
          rw [e]
          rfl
      · rintro ⟨⟩ H8 junk8 ha8
        have st8 := st7.call ha8
        have u8 := u7.call ha8
        have hcs8 : SlD tSet (Old H8) H8 a5 c5 (setsA a) := u8.view 1 rfl
        (conv => whnf); refine VCall.mk (clsAtoms_c (fun k hk => hk) hcs8 (Nat.le_trans hTl hl)) ?_
        rintro _ H9 ⟨ha9, ca, cc, rfl, hat⟩
        have st9 := st8.call ha9
        have u9 := u8.call ha9
        have hnv9 : NetV (Old H9) H9 (.pointer (some ⟨nb, 0, none⟩)) a := (hnv0.frame u9.old).mono fun k hk => u9.up hk
        (conv => whnf); refine VCall.mk (explore_c (S := Old H9) (l0 := lstS (begS a)) (fun k hk => hk) (u9.in_ 0 rfl rfl).2 ((u9.blk 0 rfl).cells fun j v hv => by rw [Nat.zero_add]; exact hv) hnv9 (st9.in_ 0 rfl rfl).2 ((st9.blk 0 rfl).cells fun j v hv => by rw [Nat.zero_add]; exact hv) hl (hpow.agr st9.old) hat (reps_len _) hbeg (lstS_len _) hb1 hb2) ?_
        rintro r H10 ⟨ha10, hres⟩
        have st10 := st9.call ha10
        change match detF budget (stepA a) (repsM (setsA a)) (lstS (begS a)) with | none => _ | some (F, rows) => _ at hres
        cases hd : detF budget (stepA a) (repsM (setsA a)) (lstS (begS a)) with
        | none =>
          rw [hd] at hres
          simp only at hres
          subst hres
          (conv => whnf)
          refine ⟨st10.old, ?_⟩
          rw [hd]
        | some q =>
          obtain ⟨F, rows⟩ := q
          rw [hd] at hres
          obtain ⟨v, rfl, hv⟩ := hres
          (conv => whnf)
          refine ⟨st10.old, ?_⟩
          rw [hd]
          exact ⟨v, rfl, hv.mono fun k hk => ⟨Nat.le_trans (old_size st9.old) hk.1, hk.2⟩⟩
end Go.Proofs.YtfbghcpdinlmcaaGreatDoor
/- Copies of a table's parts: the laws' cells, the document's Rows. -/
set_option linter.unusedVariables false
set_option linter.unusedSimpArgs false
set_option maxRecDepth 100000
namespace Go.Proofs.YtfbghcpdinlmcaaGreatDoor
open Go.VC
attribute [local irreducible] mRun

theorem zero_set (S : Nat → Prop) (H : Heap) : tSet.rep S H ((Tryz.t101.zero.getD undef).cells.toList) 0#256 := by
  show _ = setL 0#256
  kernel_rfl
theorem rows_c (na : Option Addr) (nc : Nat) (next : List (List Int)) (S : Nat → Prop) (H : Heap) (hS : ∀ k, S k → k < H.size) (hc : SlD tRows S H na nc next) (hn : next.length ≤ 4194304) (hr : ∀ row ∈ next, row.length ≤ 4194304) :
    FnOk Tryz.prog 52 #[.slice na next.length nc] H fun v H' => Agr (Old H) H H' ∧ H.size ≤ H'.size ∧ ∃ b vs, v = .slice (some ⟨b, 0, none⟩) next.length next.length ∧ H.size ≤ b ∧
      Tab tI (fun _ => False) H' (b + 1) 3 b 41 vs next := by
  refine FnOk.of_vc Tryz.func52 rfl (Tryz.call52 _) ?_
  (conv => whnf); refine vmake1 sl35 rfl (by omega) (by omega) (by omega) (by omega) ?_
  intro nb H2 hnb hs2 hb2 ha2
  rw [Int.toNat_natCast] at hb2
  (conv => whnf)
  refine VLoop.mk [4] (fun k : Nat => [.int .i64 k]) (fun k H3 => k ≤ next.length ∧ Agr (fun j => j < H2.size ∧ j ≠ nb) H2 H3 ∧ H2.size ≤ H3.size ∧
    ∃ vs, Tab tI (fun _ => False) H3 (nb + 1) 3 nb 41 vs (next.take k ++ List.replicate (next.length - k) []) ∧ ∀ j, k ≤ j → j < next.length → vs[j]? = some (.slice none 0 0)) (fun k _ => next.length - k) ?_ ?_
  · (conv => whnf)
    refine ⟨0, rfl, by omega, Agr.refl _ _, by omega, List.replicate next.length (.slice none 0 0), ?_, fun j _ hj => by rw [List.getElem?_replicate, if_pos hj]⟩
    rw [fill_beg]
    exact Tab.new hb2 (by omega)
  · rintro k H3 junk ⟨hk, ha3, hs3, vs, htab, hvs⟩
    (conv => whnf); refine VIte.mk (fun h => ?_) (fun h => ?_) <;> simp only [decide_eq_true_eq, decide_eq_false_iff_not] at h
    · obtain ⟨row, hrow⟩ := get_some (l := next) (k := k) (by omega)
      have hrl := hr row (List.mem_of_getElem? hrow)
      have hv := hvs k (Nat.le_refl _) (by omega)
      have hA : Agr (Old H) H H3 := (ha2.mono fun j hj => by unfold Old at hj; omega).trans (ha3.mono fun j hj => by unfold Old at hj; omega)
      (conv => whnf); refine vbuild0 sl41 ?_
      intro q4 H4 hq4 hs4 hb4 ha4
      have hA4 := hA.trans (ha4.mono fun j hj => by unfold Old at hj; omega)
      (conv => whnf); refine ixr sl35 (hc.frame (hA4.mono hS)) hrow rfl ?_
      rintro b5 o5 cs5 hSb5 hcells5 ⟨ra, rc, rfl, hrow5⟩
      (conv => whnf); refine ld1 ct41 hcells5.one trivial ?_
      have hnb4 : nb < H4.size := by omega
      (conv => whnf); refine vappendD (T := tI) (S := fun j => j < H.size) (lo := nb + 1) (xs := []) sl41 (tInt_ones _) (SlO.empty (by omega) hb4) (by omega) (fun j hj => ⟨by omega, ?_⟩) (hrow5.mono hS) (by simp only [maxLen, List.length_nil]; omega) (by simp only [List.length_nil]; omega) ?_
      · rintro ⟨o, n, c, e⟩; cases e; omega
      intro v6 H6 hown6 ha6 hs6 hfresh6
      rw [List.nil_append] at hown6
      have htab4 := htab.agr ha4 (by omega) (fun b _ hb => by omega) (fun _ h => h.elim)
      have hq : ∀ j, slB (.slice (some ⟨q4, 0, none⟩) 0 0) j → j = q4 := by rintro j ⟨o, n, c, e⟩; cases e; rfl
      have hvl : k < vs.length := (List.getElem?_eq_some_iff.1 hv).1
      (conv => whnf); refine ix sl35 (by omega) (by omega) ?_
      (conv => whnf); refine st1 ct41 (htab4.blk.agr ha6 ⟨by omega, fun hb => by have := hq _ hb; omega⟩) (by simpa using hvl) hown6.one ?_
      intro H7 hb7 ha7 hs7
      rw [show 0 + (k : Int).toNat * 1 = k by omega] at hb7
      have h46 : Agr (fun j => j < H4.size ∧ j ≠ q4) H4 H6 := ha6.mono fun j hj => ⟨hj.1, fun hb => hj.2 (hq _ hb)⟩
      have h36 : Agr (fun j => j < H3.size ∧ ¬ slB (.slice none 0 0) j) H3 H6 := (ha4.mono fun j hj => by omega).trans (h46.mono fun j hj => by omega)
      have htab7 := htab.push hv (hown6.free (tInt_free _)) h36 (fun j hj => by
        rcases hfresh6 j hj with h | h
        · have := hq j h; omega
        · omega) hb7 ha7 (fun j hj => hj.elim)
      rw [fill_set hrow] at htab7
      (conv => whnf); rw [w64 (x := (k : Int) + 1) (by omega) (by omega)]
      refine ⟨rfl, k + 1, by simp, ⟨by omega, ?_, by omega, _, htab7, fun j hj1 hj2 => ?_⟩, by omega⟩
      · exact ((ha3.trans (ha4.mono fun j hj => by omega)).trans (h46.mono fun j hj => by omega)).trans (ha7.mono fun j hj => hj.2)
      · rw [List.getElem?_set_ne (by omega)]
        exact hvs j (by omega) hj2
    · obtain rfl : k = next.length := by omega
      rw [fill_end] at htab
      (conv => whnf)
      exact ⟨(ha2.mono fun j hj => by unfold Old at hj; omega).trans (ha3.mono fun j hj => by unfold Old at hj; omega), by omega, nb, vs, rfl, by omega, htab⟩

end Go.Proofs.YtfbghcpdinlmcaaGreatDoor
/- The document's sets, tables: From, Sets, Sound, Whole. -/
set_option linter.unusedVariables false
set_option linter.unusedSimpArgs false
set_option maxRecDepth 100000
namespace Go.Proofs.YtfbghcpdinlmcaaGreatDoor
open Go.VC
attribute [local irreducible] mRun

end Go.Proofs.YtfbghcpdinlmcaaGreatDoor

/- The document's Sets, Sound and Whole. -/
set_option linter.unusedVariables false
set_option linter.unusedSimpArgs false
set_option maxRecDepth 100000
namespace Go.Proofs.YtfbghcpdinlmcaaGreatDoor
open Go.VC
attribute [local irreducible] mRun

/-! ### the plain law -/
def cnt (cells : List (BitVec 256)) (b : Nat) : Nat := (cells.filter fun x => x.getLsbD b).length
def ind (x : BitVec 256) (b : Nat) : Nat := if x.getLsbD b then 1 else 0
theorem cnt_cons (c : BitVec 256) (cs : List (BitVec 256)) (b : Nat) : cnt (c :: cs) b = ind c b + cnt cs b := by
  unfold cnt ind
  rw [List.filter_cons]
  split <;> simp <;> omega
theorem and_zero {a c : BitVec 256} : a &&& c = 0#256 ↔ ∀ b, b < 256 → ind a b + ind c b ≤ 1 := by
  constructor
  · intro h b hb
    have h1 : (a &&& c).getLsbD b = false := by rw [h]; simp
    rw [BitVec.getLsbD_and] at h1
    unfold ind
    cases ha : a.getLsbD b <;> cases hc : c.getLsbD b <;> simp_all
  · intro h
    apply BitVec.eq_of_getLsbD_eq
    intro b hb
    have h1 := h b hb
    rw [BitVec.getLsbD_and]
    unfold ind at h1
    cases ha : a.getLsbD b <;> cases hc : c.getLsbD b <;> simp_all
theorem ind_or {a c : BitVec 256} (h : a &&& c = 0#256) {b : Nat} (hb : b < 256) : ind (a ||| c) b = ind a b + ind c b := by
  have h1 := and_zero.1 h b hb
  unfold ind at h1 ⊢
  rw [BitVec.getLsbD_or]
  cases ha : a.getLsbD b <;> cases hc : c.getLsbD b <;> simp_all
theorem disjGo_some : ∀ (cs : List (BitVec 256)) (all : BitVec 256), (∃ x, disjGo all cs = some x) ↔ ∀ b, b < 256 → ind all b + cnt cs b ≤ 1
  | [], all => by
    simp only [disjGo, cnt, List.filter_nil, List.length_nil]
    refine ⟨fun _ b _ => ?_, fun _ => ⟨_, rfl⟩⟩
    unfold ind
    split <;> omega
  | c :: cs, all => by
    simp only [disjGo]
    split
    · rename_i h
      rw [disjGo_some cs (all ||| c)]
      constructor
      · intro h1 b hb
        have := h1 b hb
        rw [ind_or h hb] at this
        rw [cnt_cons]; omega
      · intro h1 b hb
        have := h1 b hb
        rw [cnt_cons] at this
        rw [ind_or h hb]; omega
    · rename_i h
      refine ⟨fun ⟨x, hx⟩ => (by cases hx), fun h1 => absurd (and_zero.2 fun b hb => ?_) h⟩
      have := h1 b hb
      rw [cnt_cons] at this
      omega
theorem cnt_pos {cs : List (BitVec 256)} {b : Nat} : (cs.any fun c => c.getLsbD b) = true ↔ 1 ≤ cnt cs b := by
  unfold cnt
  rw [List.any_eq_true]
  constructor
  · rintro ⟨x, hx, hb⟩
    exact List.length_pos_of_mem (List.mem_filter.2 ⟨hx, hb⟩)
  · intro h
    obtain ⟨x, hx⟩ := List.exists_mem_of_length_pos h
    exact ⟨x, (List.mem_filter.1 hx).1, (List.mem_filter.1 hx).2⟩
theorem soundB_iff {cells : List (BitVec 256)} {next : List (List Int)} {fl : Nat} : soundB cells next fl = true ↔ (1 ≤ next.length ∧ next.length ≤ 65536 ∧ next.length = fl) ∧ (∀ b, b < 256 → cnt cells b = 1) ∧ ∀ row ∈ next, rowOk next.length cells.length row = true := by
  have hz : ∀ b, ind 0#256 b = 0 := fun b => by simp [ind]
  constructor
  · intro h
    have hr := soundB_rows h
    unfold soundB at h
    split at h
    · cases h
    · rename_i all hall
      simp only [Bool.and_eq_true, beq_iff_eq, decide_eq_true_eq, List.all_eq_true] at h
      refine ⟨⟨hr.1, hr.2.1, hr.2.2.1⟩, fun b hb => ?_, h.2⟩
      have h1 := (disjGo_some cells 0#256).1 ⟨all, hall⟩ b hb
      rw [hz] at h1
      have h2 := disjGo_bits hall b
      rw [h.1.1.1.1, BitVec.getLsbD_allOnes] at h2
      simp only [hb, decide_true, BitVec.getLsbD_zero, Bool.false_or] at h2
      have h3 := cnt_pos.1 h2.symm
      omega
  · rintro ⟨⟨h1, h2, h3⟩, h4, h5⟩
    obtain ⟨all, hall⟩ := (disjGo_some cells 0#256).2 fun b hb => by rw [hz, h4 b hb]; omega
    unfold soundB
    rw [hall]
    simp only [Bool.and_eq_true, beq_iff_eq, decide_eq_true_eq, List.all_eq_true]
    refine ⟨⟨⟨⟨BitVec.eq_of_getLsbD_eq fun b hb => ?_, h1⟩, h2⟩, h3⟩, h5⟩
    rw [disjGo_bits hall b, BitVec.getLsbD_allOnes, cnt_pos.2 (by rw [h4 b hb]; omega)]
    simp [hb]
/-! ### the walks -/
end Go.Proofs.YtfbghcpdinlmcaaGreatDoor

/- The document's Atoms. -/
set_option linter.unusedVariables false
set_option linter.unusedSimpArgs false
set_option maxRecDepth 100000
namespace Go.Proofs.YtfbghcpdinlmcaaGreatDoor
open Go.VC
attribute [local irreducible] mRun

/-! ### the plain run -/
def sigEq (cells : List (BitVec 256)) (a b : Nat) : Bool := cells.all fun c => c.getLsbD a == c.getLsbD b
/-- The least bytes of the atoms so far, the place of each byte so far. -/
def atRun (cells : List (BitVec 256)) : Nat → List Nat × List Nat
  | 0 => ([], [])
  | b + 1 => match (atRun cells b).1.findIdx? fun g => sigEq cells b g with
    | some k => ((atRun cells b).1, (atRun cells b).2 ++ [k])
    | none => ((atRun cells b).1 ++ [b], (atRun cells b).2 ++ [(atRun cells b).1.length])
def atSet (ps : List Nat) (k : Nat) (b : Nat) : Bool := ps[b]? == some k
structure AtOk (cells : List (BitVec 256)) (b : Nat) (f ps : List Nat) : Prop where
  plen : ps.length = b
  flen : f.length ≤ b
  lt : ∀ p ∈ ps, p < f.length
  first : ∀ (k g : Nat), f[k]? = some g → g < b ∧ ps[g]? = some k
  sig : ∀ (i p g : Nat), ps[i]? = some p → f[p]? = some g → sigEq cells i g = true ∧ g ≤ i
theorem sigEq_refl (cells : List (BitVec 256)) (a : Nat) : sigEq cells a a = true := by simp [sigEq]
theorem atRun_ok (cells : List (BitVec 256)) : ∀ b, AtOk cells b (atRun cells b).1 (atRun cells b).2
  | 0 => ⟨rfl, Nat.le_refl _, (fun p h => by cases h), (fun k g h => by cases h), (fun i p g h => by cases h)⟩
  | b + 1 => by
    have ih := atRun_ok cells b
    unfold atRun
    split
    · rename_i k hk
      rw [List.findIdx?_eq_some_iff_getElem] at hk
      obtain ⟨hlt, hsig, _⟩ := hk
      refine ⟨by simp [ih.plen], by have := ih.flen; simp only; omega, fun p hp => ?_, fun k' g hg => ?_, fun i p g hi hg => ?_⟩
      · rcases List.mem_append.1 hp with h | h
        · exact ih.lt p h
        · rw [List.mem_singleton] at h; subst h; exact hlt
      · obtain ⟨h1, h2⟩ := ih.first k' g hg
        exact ⟨by omega, by simp only; rw [List.getElem?_append_left (by rw [ih.plen]; exact h1)]; exact h2⟩
      · simp only at hi hg
        by_cases hib : i < b
        · rw [List.getElem?_append_left (by rw [ih.plen]; exact hib)] at hi
          exact ih.sig i p g hi hg
        · rw [List.getElem?_append_right (by rw [ih.plen]; omega), ih.plen] at hi
          have hi0 : i - b = 0 := by
            have := (List.getElem?_eq_some_iff.1 hi).1
            simp only [List.length_singleton] at this
            omega
          rw [hi0, List.getElem?_cons_zero] at hi
          cases hi
          rw [List.getElem?_eq_getElem hlt] at hg
          cases hg
          have hib' : i = b := by omega
          subst hib'
          exact ⟨hsig, by have := (ih.first _ _ (List.getElem?_eq_getElem hlt)).1; omega⟩
    · rename_i hk
      refine ⟨by simp [ih.plen], by have := ih.flen; simp; omega, fun p hp => ?_, fun k' g hg => ?_, fun i p g hi hg => ?_⟩
      · simp only [List.length_append, List.length_singleton]
        rcases List.mem_append.1 hp with h | h
        · have := ih.lt p h; omega
        · rw [List.mem_singleton] at h; subst h; omega
      · simp only at hg ⊢
        by_cases hkl : k' < (atRun cells b).1.length
        · rw [List.getElem?_append_left hkl] at hg
          obtain ⟨h1, h2⟩ := ih.first k' g hg
          exact ⟨by omega, by rw [List.getElem?_append_left (by rw [ih.plen]; exact h1)]; exact h2⟩
        · rw [List.getElem?_append_right (by omega)] at hg
          have h0 := (List.getElem?_eq_some_iff.1 hg).1
          simp only [List.length_singleton] at h0
          rw [show k' - (atRun cells b).1.length = 0 by omega, List.getElem?_cons_zero] at hg
          cases hg
          exact ⟨by omega, by rw [List.getElem?_append_right (by rw [ih.plen]; omega), ih.plen, Nat.sub_self, List.getElem?_cons_zero]; congr 1; omega⟩
      · simp only at hi hg
        by_cases hib : i < b
        · rw [List.getElem?_append_left (by rw [ih.plen]; exact hib)] at hi
          have hp := ih.lt p (List.mem_of_getElem? hi)
          rw [List.getElem?_append_left hp] at hg
          exact ih.sig i p g hi hg
        · rw [List.getElem?_append_right (by rw [ih.plen]; omega), ih.plen] at hi
          have hi0 : i - b = 0 := by
            have := (List.getElem?_eq_some_iff.1 hi).1
            simp only [List.length_singleton] at this
            omega
          rw [hi0, List.getElem?_cons_zero] at hi
          cases hi
          rw [List.getElem?_append_right (Nat.le_refl _), Nat.sub_self, List.getElem?_cons_zero] at hg
          cases hg
          have hib' : i = b := by omega
          subst hib'
          exact ⟨sigEq_refl _ _, Nat.le_refl _⟩

def asI (l : List Nat) : List Int := l.map fun (n : Nat) => (n : Int)
theorem asI_get {l : List Nat} {i n : Nat} (h : l[i]? = some n) : (asI l)[i]? = some (n : Int) := by unfold asI; rw [List.getElem?_map, h]; rfl
theorem asI_len (l : List Nat) : (asI l).length = l.length := by simp [asI]
end Go.Proofs.YtfbghcpdinlmcaaGreatDoor

/- The document's Atoms: the walk. -/
set_option linter.unusedVariables false
set_option linter.unusedSimpArgs false
set_option maxRecDepth 100000
namespace Go.Proofs.YtfbghcpdinlmcaaGreatDoor
open Go.VC
attribute [local irreducible] mRun

end Go.Proofs.YtfbghcpdinlmcaaGreatDoor

/- The document's automata in memory; Parted. -/
set_option linter.unusedVariables false
set_option linter.unusedSimpArgs false
set_option maxRecDepth 100000
namespace Go.Proofs.YtfbghcpdinlmcaaGreatDoor
open Go.VC
attribute [local irreducible] mRun atRun

def dfaL (cell : List Int) (rv nv fv : Value) : List Value := cell.map (Value.int .i64) ++ [rv, nv, fv]
section
variable {cell : List Int} {rv nv fv v : Value}
end
/-! ### the cells so far -/
end Go.Proofs.YtfbghcpdinlmcaaGreatDoor
/- The law DfaLives: its walk. -/
set_option linter.unusedVariables false
set_option linter.unusedSimpArgs false
set_option maxRecDepth 100000
namespace Go.Proofs.YtfbghcpdinlmcaaGreatDoor
open Go.VC
attribute [local irreducible] mRun

def autoOf (cells : List (BitVec 256)) (next : List (List Int)) (final : List Bool) : Option AM := if soundB cells next final.length then some (madeM cells next final) else none
/-- What a table that is handed in says of memory. -/
structure TabIn (S : Nat → Prop) (H : Heap) (v : Value) (cells : List (BitVec 256)) (next : List (List Int)) (final : List Bool) : Prop where
  lt : ∀ k, S k → k < H.size
  rep : ∃ ca na fa cc nc fc, v = .agg #[.slice ca cells.length cc, .slice na next.length nc, .slice fa final.length fc] ∧ SlD tSet S H ca cc cells ∧ SlD tRows S H na nc next ∧ SlD tBool S H fa fc final
  cn : cells.length ≤ 1048576
  nn : next.length ≤ 1048576
  rn : ∀ row ∈ next, row.length ≤ 1048576
  fn : final.length ≤ 1048576
theorem vcall_new {cells : List (BitVec 256)} {next : List (List Int)} {final : List Bool} {S : Nat → Prop} {H : Heap} {K : Value → Heap → Prop} {ca na fa : Option Addr} {cc nc fc : Nat} (hS : ∀ k, S k → k < H.size)
    (hc : SlD tSet S H ca cc cells) (hn : SlD tRows S H na nc next) (hf : SlD tBool S H fa fc final)
    (h : ∀ v H', Agr (Old H) H H' → H.size ≤ H'.size → AutoV (Fresh H H') H' v (autoOf cells next final) → K v H') :
    VCall Tryz.prog 51 #[.slice ca cells.length cc, .slice na next.length nc, .slice fa final.length fc] H K :=
  VCall.mk (new_c ca na fa cc nc fc cells next final S H hS hc hn hf) fun v H' ⟨h1, h2, h3⟩ => h v H' h1 h2 h3
theorem vcall_newO {cells : List (BitVec 256)} {next : List (List Int)} {final : List Bool} {H : Heap} {K : Value → Heap → Prop} {nb lo1 lo2 : Nat} {v1 v3 : Value} {vs : List Value}
    (h1 : SlO tSet (fun _ => False) H lo1 101 v1 cells) (h2 : Tab tI (fun _ => False) H (nb + 1) 3 nb 41 vs next) (h3 : SlO tBool (fun _ => False) H lo2 4 v3 final)
    (hm : next.length ≤ maxLen)
    (h : ∀ v H', Agr (Old H) H H' → H.size ≤ H'.size → AutoV (Fresh H H') H' v (autoOf cells next final) → K v H') :
    VCall Tryz.prog 51 #[v1, .slice (some ⟨nb, 0, none⟩) next.length next.length, v3] H K := by
  obtain ⟨ca, cc, rfl, hc, -⟩ := h1.view (S' := Old H) (fun k hk => (h1.lt hk).2) (fun k hk => hk.elim)
  obtain ⟨fa, fc, rfl, hf, -⟩ := h3.view (S' := Old H) (fun k hk => (h3.lt hk).2) (fun k hk => hk.elim)
  exact vcall_new (S := Old H) (fun k hk => hk) hc (h2.view rfl hm (fun k _ hk => hk) (fun k hk => hk.elim)) hf h
theorem ends_c {fa : Option Addr} {fc : Nat} {final : List Bool} {S : Nat → Prop} {H : Heap} {K : Value → Heap → Prop} {q : Nat} (hq : Blk H q 4 []) (hS : ∀ k, S k → k < H.size ∧ k ≠ q) (hf : SlD tBool S H fa fc final) (hn : final.length ≤ 4194304)
    (h : ∀ v H', SlO tBool (fun _ => False) H' q 4 v final → Agr (fun k => k < H.size ∧ k ≠ q) H H' → H.size ≤ H'.size → K v H') :
    VEff Tryz.prog (Builtin.append_ #[36, 36] 36 [.slice (some ⟨q, 0, none⟩) 0 0, .slice fa final.length fc].toArray) H K := by
  have hqb : ∀ j, slB (.slice (some ⟨q, 0, none⟩) 0 0) j → j = q := by rintro j ⟨o, n, c, e⟩; cases e; rfl
  refine vappendD (T := tBool) (S := S) (lo := q) (xs := []) sl36 tBool_ones (SlO.empty (Nat.le_refl _) hq) (Nat.le_of_lt hq.lt) (fun j hj => ⟨(hS j hj).1, fun hb => (hS j hj).2 (hqb j hb)⟩) hf (by simp only [maxLen, List.length_nil]; omega) (by simp only [List.length_nil]; omega) ?_
  intro v H' h1 h2 h3 h4
  rw [List.nil_append] at h1
  exact h v H' (h1.free tBool_free) (h2.mono fun j hj => ⟨hj.1, fun hb => hj.2 (hqb j hb)⟩) h3

/-! ### the plain law -/
section
open Classical
end
end Go.Proofs.YtfbghcpdinlmcaaGreatDoor
/- The document's automata as data; its New. -/
set_option linter.unusedVariables false
set_option linter.unusedSimpArgs false
set_option maxRecDepth 100000
namespace Go.Proofs.YtfbghcpdinlmcaaGreatDoor
open Go.VC
attribute [local irreducible] mRun atRun

structure DM where
  cell : List Int
  reps : List Int
  next : List (List Int)
  final : List Bool
structure DfaV (S : Nat → Prop) (H : Heap) (v : Value) (D : DM) : Prop where
  len : D.cell.length = 256
  rep : ∃ ra rc na nc fa fc, v = .agg (dfaL D.cell (.slice ra D.reps.length rc) (.slice na D.next.length nc) (.slice fa D.final.length fc)).toArray ∧ SlD tI S H ra rc D.reps ∧ SlD tRows S H na nc D.next ∧ SlD tBool S H fa fc D.final
def rowR (cells : List (BitVec 256)) (f : List Nat) (row : List Int) : List Int := f.map fun r => row.getD (cellOf cells r) 0
def madeD (cells : List (BitVec 256)) (next : List (List Int)) (final : List Bool) : DM :=
  ⟨asI (atRun cells 256).2, asI (atRun cells 256).1, next.map (rowR cells (atRun cells 256).1), final⟩
def noneD : DM := ⟨List.replicate 256 0, [0], [[0]], [false]⟩

theorem rowR_len (cells : List (BitVec 256)) (f : List Nat) (row : List Int) : (rowR cells f row).length = f.length := by simp [rowR]

end Go.Proofs.YtfbghcpdinlmcaaGreatDoor

/- The document's None, Whole, Made, Step, IsFinal, Accepts. -/
set_option linter.unusedVariables false
set_option linter.unusedSimpArgs false
set_option maxRecDepth 100000
namespace Go.Proofs.YtfbghcpdinlmcaaGreatDoor
open Go.VC
attribute [local irreducible] mRun atRun

def dfaOf (cells : List (BitVec 256)) (next : List (List Int)) (final : List Bool) : DM := if soundB cells next final.length then madeD cells next final else noneD
end Go.Proofs.YtfbghcpdinlmcaaGreatDoor

/- The document's Step, IsFinal, Accepts, Useful, Live. -/
set_option linter.unusedVariables false
set_option linter.unusedSimpArgs false
set_option maxRecDepth 100000
namespace Go.Proofs.YtfbghcpdinlmcaaGreatDoor
open Go.VC
attribute [local irreducible] mRun atRun

structure DM.Ok (D : DM) : Prop where
  n1 : 1 ≤ D.next.length
  n2 : D.next.length ≤ 65536
  fl : D.final.length = D.next.length
  cell : D.cell.length = 256
  rows : ∀ row ∈ D.next, row.length ≤ 256 ∧ (∀ c ∈ D.cell, 0 ≤ c ∧ c < (row.length : Int)) ∧ ∀ t ∈ row, 0 ≤ t ∧ t < (D.next.length : Int)
def stepD (D : DM) (q : Int) (b : Nat) : Int := if q < 0 ∨ (D.next.length : Int) ≤ q then -1 else ((D.next[q.toNat]?).getD []).getD (D.cell.getD b 0).toNat 0
def finD (D : DM) (q : Int) : Bool := decide (0 ≤ q) && (D.final[q.toNat]?).getD false
theorem stepD_at {D : DM} {q b : Nat} {row : List Int} {c : Nat} {t : Int} (hr : D.next[q]? = some row) (hc : D.cell[b]? = some (c : Int)) (ht : row[c]? = some t) : stepD D (q : Int) b = t := by
  have := (List.getElem?_eq_some_iff.1 hr).1
  unfold stepD
  rw [if_neg (by omega)]
  simp only [Int.toNat_natCast, hr, List.getD_eq_getElem?_getD, hc, Option.getD_some, ht]
theorem DM.Ok.at {D : DM} (h : D.Ok) {q b : Nat} (hq : q < D.next.length) (hb : b < 256) : ∃ row c t, D.next[q]? = some row ∧ D.cell[b]? = some ((c : Nat) : Int) ∧ row[c]? = some t ∧ c < 256 ∧ 0 ≤ t ∧ t < (D.next.length : Int) ∧ t ∈ row := by
  obtain ⟨row, hr⟩ := get_some hq
  obtain ⟨ci, hc⟩ := get_some (l := D.cell) (k := b) (by rw [h.cell]; exact hb)
  obtain ⟨h1, h2, h3⟩ := h.rows row (List.mem_of_getElem? hr)
  obtain ⟨h4, h5⟩ := h2 ci (List.mem_of_getElem? hc)
  obtain ⟨c, rfl⟩ := Int.eq_ofNat_of_zero_le h4
  obtain ⟨t, ht⟩ := get_some (l := row) (k := c) (by omega)
  have := h3 t (List.mem_of_getElem? ht)
  exact ⟨row, c, t, hr, hc, ht, by omega, this.1, this.2, List.mem_of_getElem? ht⟩
end Go.Proofs.YtfbghcpdinlmcaaGreatDoor

/- The document's Useful and Live. -/
set_option linter.unusedVariables false
set_option linter.unusedSimpArgs false
set_option maxRecDepth 100000
namespace Go.Proofs.YtfbghcpdinlmcaaGreatDoor
open Go.VC
attribute [local irreducible] mRun atRun

/-- What is marked so far. -/
structure MkOk (D : DM) (u : List Bool) : Prop where
  len : u.length = D.next.length
  live : ∀ q : Nat, u[q]? = some true → LiveT D.next D.final q
  fin : ∀ q : Nat, D.final[q]? = some true → u[q]? = some true
def Shut (D : DM) (u : List Bool) (q : Nat) : Prop := u[q]? = some true ∨ ∀ (row : List Int) (t : Nat), D.next[q]? = some row → (t : Int) ∈ row → u[t]? ≠ some true
end Go.Proofs.YtfbghcpdinlmcaaGreatDoor

/- The document's Live; both automata of a table step alike. -/
set_option linter.unusedVariables false
set_option linter.unusedSimpArgs false
set_option maxRecDepth 100000
namespace Go.Proofs.YtfbghcpdinlmcaaGreatDoor
open Go.VC
attribute [local irreducible] mRun atRun

open Classical in
noncomputable def aliveD (D : DM) (q : Int) : Bool := decide (LiveT D.next D.final q.toNat)
theorem stepD_range {D : DM} (hok : D.Ok) {q : Int} {b : Nat} (h0 : 0 ≤ q) (h1 : q < D.next.length) (hb : b < 256) : 0 ≤ stepD D q b ∧ stepD D q b < D.next.length := by
  obtain ⟨n, rfl⟩ := Int.eq_ofNat_of_zero_le h0
  obtain ⟨row, c, t, hr, hc, ht, _, h2, h3, _⟩ := hok.at (q := n) (b := b) (by omega) hb
  rw [stepD_at hr hc ht]
  exact ⟨h2, h3⟩
end Go.Proofs.YtfbghcpdinlmcaaGreatDoor

/- Tables in memory: boxed and loaded again. -/
set_option linter.unusedVariables false
set_option linter.unusedSimpArgs false
namespace Go.Proofs.YtfbghcpdinlmcaaGreatDoor
open Go.VC
section
variable {S : Nat → Prop} {H : Heap} {v : Value} {cells : List (BitVec 256)} {next : List (List Int)} {final : List Bool}
theorem TabIn.frame (h : TabIn S H v cells next final) {H' : Heap} (k : Agr (Old H) H H') : TabIn S H' v cells next final := by
  obtain ⟨hS, ⟨ca, na, fa, cc, nc, fc, rfl, hc, hn, hf⟩, r1, r2, r3, r4⟩ := h
  exact ⟨fun j hj => old_lt k (hS j hj), ⟨ca, na, fa, cc, nc, fc, rfl, hc.frame (k.mono hS), hn.frame (k.mono hS), hf.frame (k.mono hS)⟩, r1, r2, r3, r4⟩
theorem tab_box {t : TypeId} {K : Value → Heap → Prop} (h : TabIn S H v cells next final) (k : ∀ l : List Value, l.length = 3 → v = .agg l.toArray → New H (fun b H' => K (.pointer (some ⟨b, 0, none⟩)) H') t l) : VEff Tryz.prog (Instr.box t v) H K := by
  obtain ⟨hS, ⟨ca, na, fa, cc, nc, fc, rfl, hc, hn, hf⟩, r1, r2, r3, r4⟩ := h
  exact vbox _ rfl (k [_, _, _] rfl rfl)
theorem tab_load {pb : Nat} {S0 : Nat → Prop} {K : Value → Prop} {l : List Value} (hl : l.length = 3) (hv : v = .agg l.toArray) (hb : Blk H pb 38 l) (hS : S0 pb) (k : K v) : VDet Tryz.prog (Instr.loadAt 38 (.pointer (some ⟨pb, 0, none⟩))) S0 H K := by
  subst hv
  exact ldN (cs := l) (by rw [hl]; exact ag38) (hb.cells fun j v hv => by rw [Nat.zero_add]; exact hv) hS k
end
end Go.Proofs.YtfbghcpdinlmcaaGreatDoor
/- Both automata of a table step alike. -/
set_option linter.unusedVariables false
set_option linter.unusedSimpArgs false
set_option maxRecDepth 100000
namespace Go.Proofs.YtfbghcpdinlmcaaGreatDoor
open Go.VC

/-! ### merging, once more -/
structure MOk2 (next : List (List Int)) (cells : List (BitVec 256)) (b : Nat) (st : MS) : Prop where
  at_ : ∀ (i p : Nat), st.cell[i]? = some p → ∃ c, st.cols[p]? = some c ∧ alikeB next c (cellOf cells i) = true
  some_ : ∀ p, p < st.cols.length → ∃ i, i < b ∧ st.cell[i]? = some p
theorem alikeB_refl (next : List (List Int)) (c : Nat) : alikeB next c c = true := by simp [alikeB]
theorem mRun_ok2 {next : List (List Int)} {cells : List (BitVec 256)} {sp : Nat → BitVec 256} (hc : ∀ b, b < 256 → cellOf cells b < cells.length) : ∀ b, b ≤ 256 → MOk2 next cells b (mRun next cells sp b)
  | 0, _ => ⟨(fun i p h => by simp [mRun] at h), (fun p h => by simp [mRun] at h)⟩
  | b + 1, hb => by
    have ih := mRun_ok2 (next := next) (sp := sp) hc b (by omega)
    have ho := mRun_ok (next := next) (sp := sp) hc b (by omega)
    unfold mRun mStep mNew
    cases hf : mFind next (mRun next cells sp b).cols (cellOf cells b) with
    | some k =>
      unfold mFind at hf
      obtain ⟨hk, hal, _⟩ := List.findIdx?_eq_some_iff_getElem.1 hf
      refine ⟨fun i p h => ?_, fun p hp => ?_⟩
      · simp only at h ⊢
        by_cases hib : i < b
        · rw [List.getElem?_append_left (by rw [ho.cell]; exact hib)] at h
          exact ih.at_ i p h
        · rw [List.getElem?_append_right (by rw [ho.cell]; omega), ho.cell] at h
          have h0 := (List.getElem?_eq_some_iff.1 h).1
          simp only [List.length_singleton] at h0
          rw [show i - b = 0 by omega, List.getElem?_cons_zero] at h
          cases h
          rw [show i = b by omega]
          exact ⟨_, List.getElem?_eq_getElem hk, hal⟩
      · simp only at hp ⊢
        obtain ⟨i, h1, h2⟩ := ih.some_ p hp
        exact ⟨i, by omega, by rw [List.getElem?_append_left (by rw [ho.cell]; exact h1)]; exact h2⟩
    | none =>
      refine ⟨fun i p h => ?_, fun p hp => ?_⟩
      · simp only at h ⊢
        by_cases hib : i < b
        · rw [List.getElem?_append_left (by rw [ho.cell]; exact hib)] at h
          obtain ⟨c, h1, h2⟩ := ih.at_ i p h
          exact ⟨c, by rw [List.getElem?_append_left (List.getElem?_eq_some_iff.1 h1).1]; exact h1, h2⟩
        · rw [List.getElem?_append_right (by rw [ho.cell]; omega), ho.cell] at h
          have h0 := (List.getElem?_eq_some_iff.1 h).1
          simp only [List.length_singleton] at h0
          rw [show i - b = 0 by omega, List.getElem?_cons_zero] at h
          cases h
          rw [show i = b by omega]
          exact ⟨cellOf cells b, by simp, alikeB_refl _ _⟩
      · simp only [List.length_append, List.length_singleton] at hp ⊢
        by_cases hpl : p < (mRun next cells sp b).cols.length
        · obtain ⟨i, h1, h2⟩ := ih.some_ p hpl
          exact ⟨i, by omega, by rw [List.getElem?_append_left (by rw [ho.cell]; exact h1)]; exact h2⟩
        · exact ⟨b, by omega, by rw [List.getElem?_append_right (by rw [ho.cell]; omega), ho.cell, Nat.sub_self, List.getElem?_cons_zero]; congr 1; omega⟩
attribute [local irreducible] mRun atRun
theorem alikeB_row {next : List (List Int)} {c d : Nat} {row : List Int} (h : alikeB next c d = true) (hr : row ∈ next) : row[c]? = row[d]? := by
  unfold alikeB at h
  simp only [Bool.or_eq_true, beq_iff_eq, List.all_eq_true] at h
  rcases h with h | h
  · rw [h]
  · exact h row hr
theorem sig_cell {cells : List (BitVec 256)} {a b : Nat} (h : sigEq cells a b = true) : cellOf cells a = cellOf cells b := by
  unfold cellOf
  unfold sigEq at h
  rw [List.all_eq_true] at h
  induction cells with
  | nil => rfl
  | cons c cs ih =>
    have h1 : c.getLsbD a = c.getLsbD b := by simpa using h c List.mem_cons_self
    rw [List.findIdx_cons, List.findIdx_cons, h1, ih fun x hx => h x (List.mem_cons_of_mem _ hx)]

theorem madeD_step {cells : List (BitVec 256)} {next : List (List Int)} {final : List Bool} {q b : Nat} {row : List Int} (hq : next[q]? = some row) (hb : b < 256) : stepD (madeD cells next final) (q : Int) b = row.getD (cellOf cells b) 0 := by
  have hok := atRun_ok cells 256
  obtain ⟨p, hp⟩ := get_some (l := (atRun cells 256).2) (k := b) (by rw [hok.plen]; exact hb)
  have hpl := hok.lt p (List.mem_of_getElem? hp)
  obtain ⟨g, hg⟩ := get_some hpl
  have hsig := (hok.sig b p g hp hg).1
  refine stepD_at (row := rowR cells (atRun cells 256).1 row) (c := p) (by simp only [madeD]; rw [List.getElem?_map, hq]; rfl) (by simp only [madeD]; exact asI_get hp) ?_
  unfold rowR
  rw [List.getElem?_map, hg]
  simp only [Option.map_some, sig_cell hsig]

/-! ### one step -/
section
variable {cells : List (BitVec 256)} {next : List (List Int)} {final : List Bool} (hs : soundB cells next final.length = true)
include hs
theorem madeM_row {q b : Nat} {row : List Int} (hq : next[q]? = some row) (hb : b < 256) : ∃ rA p, (madeM cells next final).next[q]? = some rA ∧ (madeM cells next final).cell[b]? = some p ∧ rA[p]? = some (row.getD (cellOf cells b) 0) := by
  have hc := fun b hb => (soundB_cells hs (b := b) hb).1
  have ho := mRun_ok (next := next) (sp := fun b => spanS b b) hc 256 (Nat.le_refl _)
  have h2 := mRun_ok2 (next := next) (sp := fun b => spanS b b) hc 256 (Nat.le_refl _)
  obtain ⟨p, hp⟩ := get_some (l := (mRun next cells (fun b => spanS b b) 256).cell) (k := b) (by rw [ho.cell]; exact hb)
  obtain ⟨c, hcol, hal⟩ := h2.at_ b p hp
  refine ⟨rowOf (mRun next cells (fun b => spanS b b) 256).cols row, p, by simp only [madeM]; rw [List.getElem?_map, hq]; rfl, hp, ?_⟩
  unfold rowOf
  rw [List.getElem?_map, hcol]
  simp only [Option.map_some, Option.some.injEq]
  rw [List.getD_eq_getElem?_getD, List.getD_eq_getElem?_getD, alikeB_row hal (List.mem_of_getElem? hq)]
theorem madeM_step {q b : Nat} {row : List Int} (hq : next[q]? = some row) (hb : b < 256) : stepM (some (madeM cells next final)) (q : Int) b = row.getD (cellOf cells b) 0 := by
  obtain ⟨rA, p, h1, h2, h3⟩ := madeM_row hs hq hb
  have := (List.getElem?_eq_some_iff.1 h1).1
  unfold stepM
  rw [if_neg (by simp [stN]; omega)]
  simp only [Int.toNat_natCast, h1, List.getD_eq_getElem?_getD, h2, Option.getD_some, h3]
theorem madeD_ok : (madeD cells next final).Ok := by
  obtain ⟨n1, n2, n3, hrows⟩ := soundB_rows hs
  have hok := atRun_ok cells 256
  refine ⟨by simpa [madeD] using n1, by simpa [madeD] using n2, by simp [madeD, n3], by simp [madeD, asI_len, hok.plen], fun row hr => ?_⟩
  simp only [madeD, List.mem_map] at hr
  obtain ⟨r, hr, rfl⟩ := hr
  obtain ⟨h1, h2⟩ := hrows r hr
  have hfl := hok.flen
  refine ⟨by rw [rowR_len]; exact hfl, fun c hc => ?_, fun t ht => ?_⟩
  · simp only [madeD, asI, List.mem_map] at hc
    obtain ⟨p, hp, rfl⟩ := hc
    have := hok.lt p hp
    rw [rowR_len]; omega
  · unfold rowR at ht
    obtain ⟨g, hg, rfl⟩ := List.mem_map.1 ht
    obtain ⟨i, hi⟩ := List.getElem?_of_mem hg
    have hc := (soundB_cells hs (hok.first i g hi).1).1
    simp only [madeD, List.length_map]
    rw [List.getD_eq_getElem?_getD, List.getElem?_eq_getElem (by omega), Option.getD_some]
    exact h2 _ (List.getElem_mem _)
end
theorem LiveT.sub {n1 n2 : List (List Int)} {final : List Bool} (h : ∀ (q : Nat) row (t : Nat), n1[q]? = some row → (t : Int) ∈ row → ∃ row', n2[q]? = some row' ∧ (t : Int) ∈ row') {q : Nat} (hl : LiveT n1 final q) : LiveT n2 final q := by
  induction hl with
  | fin hf => exact .fin hf
  | step hr ht _ ih =>
    obtain ⟨row', h1, h2⟩ := h _ _ _ hr ht
    exact .step h1 h2 ih
theorem made_live {cells : List (BitVec 256)} {next : List (List Int)} {final : List Bool} (hs : soundB cells next final.length = true) (q : Nat) : LiveT (madeM cells next final).next final q ↔ LiveT (madeD cells next final).next final q := by
  have hok := atRun_ok cells 256
  have hM := madeM_ok hs
  have hc := fun b hb => (soundB_cells hs (b := b) hb).1
  have h2 := mRun_ok2 (next := next) (sp := fun b => spanS b b) hc 256 (Nat.le_refl _)
  constructor
  · refine LiveT.sub fun q rA t hr ht => ?_
    have hq : q < next.length := by have := (List.getElem?_eq_some_iff.1 hr).1; simpa [madeM] using this
    obtain ⟨row, hrow⟩ := get_some hq
    obtain ⟨p, hp⟩ := List.getElem?_of_mem ht
    have hrl := (hM.rows rA (List.mem_of_getElem? hr)).1
    have hpl : p < (mRun next cells (fun b => spanS b b) 256).cols.length := by
      have h3 := (List.getElem?_eq_some_iff.1 hp).1
      have ho := mRun_ok (next := next) (sp := fun b => spanS b b) hc 256 (Nat.le_refl _)
      rw [hrl] at h3
      rw [ho.len]; exact h3
    obtain ⟨b, hb, hcell⟩ := h2.some_ p hpl
    have e1 := madeM_step hs hrow hb
    obtain ⟨rA', p', g1, g2, g3⟩ := madeM_row hs hrow hb
    rw [hr] at g1; cases g1
    have : p' = p := by
      have : (madeM cells next final).cell[b]? = some p := hcell
      rw [this] at g2; exact (Option.some.inj g2).symm
    subst this
    rw [hp] at g3
    have e2 := madeD_step (cells := cells) (final := final) hrow hb
    obtain ⟨row', c, t', k1, k2, k3, _, _, _, k4⟩ := (madeD_ok hs).at (q := q) (b := b) (by simpa [madeD] using hq) hb
    rw [stepD_at k1 k2 k3] at e2
    refine ⟨row', k1, ?_⟩
    rw [Option.some.inj g3, ← e2]; exact k4
  · refine LiveT.sub fun q rD t hr ht => ?_
    have hq : q < next.length := by have := (List.getElem?_eq_some_iff.1 hr).1; simpa [madeD] using this
    obtain ⟨row, hrow⟩ := get_some hq
    have hrD : rD = rowR cells (atRun cells 256).1 row := by
      simp only [madeD] at hr
      rw [List.getElem?_map, hrow] at hr
      exact (Option.some.inj hr).symm
    subst hrD
    unfold rowR at ht
    obtain ⟨g, hg, hgt⟩ := List.mem_map.1 ht
    obtain ⟨i, hi⟩ := List.getElem?_of_mem hg
    have hg256 := (hok.first i g hi).1
    obtain ⟨rA, p, g1, g2, g3⟩ := madeM_row hs hrow hg256
    exact ⟨rA, g1, by rw [← hgt]; exact List.mem_of_getElem? g3⟩

/-! ### both -/
section
variable (cells : List (BitVec 256)) (next : List (List Int)) (final : List Bool)
theorem dfaOf_ok : (dfaOf cells next final).Ok := by
  unfold dfaOf
  split
  · rename_i h; exact madeD_ok h
  · refine ⟨by decide, by decide, rfl, by simp [noneD], fun row hr => ?_⟩
    simp only [noneD, List.mem_singleton] at hr
    subst hr
    refine ⟨by decide, fun c hc => ?_, fun t ht => ?_⟩
    · simp only [noneD] at hc
      rw [List.eq_of_mem_replicate hc]; decide
    · rw [List.mem_singleton.1 ht]; decide
theorem both_n : (stN (autoOf cells next final) : Nat) = (dfaOf cells next final).next.length := by
  unfold autoOf dfaOf
  split
  · simp [stN, madeM, madeD]
  · rfl
theorem both_step (q : Int) {b : Nat} (hb : b < 256) : stepM (autoOf cells next final) q b = stepD (dfaOf cells next final) q b := by
  have hn := both_n cells next final
  by_cases hq : q < 0 ∨ ((dfaOf cells next final).next.length : Int) ≤ q
  · unfold stepM stepD
    rw [if_pos hq, if_pos (by rw [hn]; exact hq)]
  · obtain ⟨n, rfl⟩ := Int.eq_ofNat_of_zero_le (show 0 ≤ q by omega)
    unfold autoOf dfaOf at *
    split
    · rename_i hs
      rw [if_pos hs] at hq
      obtain ⟨row, hrow⟩ := get_some (l := next) (k := n) (by simp only [madeD, List.length_map] at hq; omega)
      rw [madeM_step hs hrow hb, madeD_step (cells := cells) (final := final) hrow hb]
    · rename_i hs
      rw [if_neg hs] at hq
      have hn0 : n = 0 := by
        have : noneD.next.length = 1 := rfl
        omega
      subst hn0
      rw [stepD_at (row := [0]) (c := 0) (t := 0) rfl (by simp only [noneD]; rw [List.getElem?_replicate, if_pos hb]; rfl) rfl]
      rfl
theorem both_final (q : Int) : finM (autoOf cells next final) q = finD (dfaOf cells next final) q := by
  unfold autoOf dfaOf
  split
  · rfl
  · unfold finM finD
    by_cases h : q.toNat = 0
    · rw [h]; simp [noneD]
    · have : noneD.final[q.toNat]? = none := List.getElem?_eq_none (by show 1 ≤ _; omega)
      rw [this]; simp
open Classical in
theorem both_alive (q : Int) : aliveM (autoOf cells next final) q = aliveD (dfaOf cells next final) q := by
  unfold autoOf dfaOf
  split
  · rename_i hs
    unfold aliveM aliveD
    exact decide_eq_decide.2 (made_live hs q.toNat)
  · unfold aliveM aliveD
    have : ∀ q, ¬ LiveT noneD.next noneD.final q := fun q hl => by
      induction hl with
      | @fin q hf =>
        have : q < 1 := (List.getElem?_eq_some_iff.1 hf).1
        have : q = 0 := by omega
        subst this
        simp [noneD] at hf
      | step _ _ _ ih => exact ih
    exact (decide_eq_false (this _)).symm
end

end Go.Proofs.YtfbghcpdinlmcaaGreatDoor
/- The law DfaTables: its walk. -/
set_option linter.unusedVariables false
set_option linter.unusedSimpArgs false
set_option maxRecDepth 100000
namespace Go.Proofs.YtfbghcpdinlmcaaGreatDoor
open Go.VC
attribute [local irreducible] mRun atRun

end Go.Proofs.YtfbghcpdinlmcaaGreatDoor
/- same: is the automaton the document's? -/
set_option linter.unusedVariables false
set_option linter.unusedSimpArgs false
set_option maxRecDepth 100000
namespace Go.Proofs.YtfbghcpdinlmcaaGreatDoor
open Go.VC
attribute [local irreducible] mRun atRun

end Go.Proofs.YtfbghcpdinlmcaaGreatDoor
/- The coarsest parting by the automaton alone: the plain run. -/
set_option linter.unusedVariables false
set_option linter.unusedSimpArgs false
set_option maxRecDepth 100000
namespace Go.Proofs.YtfbghcpdinlmcaaGreatDoor
open Go.VC

/-- The least bytes of the parts so far, the place of each byte so far. -/
def gRun (sim : Nat → Nat → Bool) : Nat → List Nat × List Nat
  | 0 => ([], [])
  | b + 1 => match (gRun sim b).1.findIdx? fun g => sim b g with
    | some k => ((gRun sim b).1, (gRun sim b).2 ++ [k])
    | none => ((gRun sim b).1 ++ [b], (gRun sim b).2 ++ [(gRun sim b).1.length])
structure GrOk (sim : Nat → Nat → Bool) (b : Nat) (f ps : List Nat) : Prop where
  plen : ps.length = b
  flen : f.length ≤ b
  lt : ∀ p ∈ ps, p < f.length
  first : ∀ (k g : Nat), f[k]? = some g → g < b ∧ ps[g]? = some k
  sig : ∀ (i p g : Nat), ps[i]? = some p → f[p]? = some g → sim i g = true ∧ g ≤ i
theorem gRun_ok {sim : Nat → Nat → Bool} (hr : ∀ a, sim a a = true) : ∀ b, GrOk sim b (gRun sim b).1 (gRun sim b).2
  | 0 => ⟨rfl, Nat.le_refl _, (fun p h => by cases h), (fun k g h => by cases h), (fun i p g h => by cases h)⟩
  | b + 1 => by
    have ih := gRun_ok hr b
    unfold gRun
    split
    · rename_i k hk
      rw [List.findIdx?_eq_some_iff_getElem] at hk
      obtain ⟨hlt, hsig, _⟩ := hk
      refine ⟨by simp [ih.plen], by have := ih.flen; simp only; omega, fun p hp => ?_, fun k' g hg => ?_, fun i p g hi hg => ?_⟩
      · rcases List.mem_append.1 hp with h | h
        · exact ih.lt p h
        · rw [List.mem_singleton] at h; subst h; exact hlt
      · obtain ⟨h1, h2⟩ := ih.first k' g hg
        exact ⟨by omega, by simp only; rw [List.getElem?_append_left (by rw [ih.plen]; exact h1)]; exact h2⟩
      · simp only at hi hg
        by_cases hib : i < b
        · rw [List.getElem?_append_left (by rw [ih.plen]; exact hib)] at hi
          exact ih.sig i p g hi hg
        · rw [List.getElem?_append_right (by rw [ih.plen]; omega), ih.plen] at hi
          have hi0 : i - b = 0 := by
            have := (List.getElem?_eq_some_iff.1 hi).1
            simp only [List.length_singleton] at this
            omega
          rw [hi0, List.getElem?_cons_zero] at hi
          cases hi
          rw [List.getElem?_eq_getElem hlt] at hg
          cases hg
          have hib' : i = b := by omega
          subst hib'
          exact ⟨hsig, by have := (ih.first _ _ (List.getElem?_eq_getElem hlt)).1; omega⟩
    · rename_i hk
      refine ⟨by simp [ih.plen], by have := ih.flen; simp; omega, fun p hp => ?_, fun k' g hg => ?_, fun i p g hi hg => ?_⟩
      · simp only [List.length_append, List.length_singleton]
        rcases List.mem_append.1 hp with h | h
        · have := ih.lt p h; omega
        · rw [List.mem_singleton] at h; subst h; omega
      · simp only at hg ⊢
        by_cases hkl : k' < (gRun sim b).1.length
        · rw [List.getElem?_append_left hkl] at hg
          obtain ⟨h1, h2⟩ := ih.first k' g hg
          exact ⟨by omega, by rw [List.getElem?_append_left (by rw [ih.plen]; exact h1)]; exact h2⟩
        · rw [List.getElem?_append_right (by omega)] at hg
          have h0 := (List.getElem?_eq_some_iff.1 hg).1
          simp only [List.length_singleton] at h0
          rw [show k' - (gRun sim b).1.length = 0 by omega, List.getElem?_cons_zero] at hg
          cases hg
          exact ⟨by omega, by rw [List.getElem?_append_right (by rw [ih.plen]; omega), ih.plen, Nat.sub_self, List.getElem?_cons_zero]; congr 1; omega⟩
      · simp only at hi hg
        by_cases hib : i < b
        · rw [List.getElem?_append_left (by rw [ih.plen]; exact hib)] at hi
          have hp := ih.lt p (List.mem_of_getElem? hi)
          rw [List.getElem?_append_left hp] at hg
          exact ih.sig i p g hi hg
        · rw [List.getElem?_append_right (by rw [ih.plen]; omega), ih.plen] at hi
          have hi0 : i - b = 0 := by
            have := (List.getElem?_eq_some_iff.1 hi).1
            simp only [List.length_singleton] at this
            omega
          rw [hi0, List.getElem?_cons_zero] at hi
          cases hi
          rw [List.getElem?_append_right (Nat.le_refl _), Nat.sub_self, List.getElem?_cons_zero] at hg
          cases hg
          have hib' : i = b := by omega
          subst hib'
          exact ⟨hr _, Nat.le_refl _⟩


theorem gRun_some {sim : Nat → Nat → Bool} {b k : Nat} (h : (gRun sim b).1.findIdx? (fun g => sim b g) = some k) : gRun sim (b + 1) = ((gRun sim b).1, (gRun sim b).2 ++ [k]) := by
  rw [gRun, h]
theorem gRun_none {sim : Nat → Nat → Bool} {b : Nat} (h : (gRun sim b).1.findIdx? (fun g => sim b g) = none) : gRun sim (b + 1) = ((gRun sim b).1 ++ [b], (gRun sim b).2 ++ [(gRun sim b).1.length]) := by
  rw [gRun, h]

/-! ### the same run as merge's -/
/-- What merge's sets hold. -/
theorem mRun_sets {next : List (List Int)} {cells : List (BitVec 256)} (hc : ∀ b, b < 256 → cellOf cells b < cells.length) : ∀ b, b ≤ 256 → ∀ (k : Nat) (x : BitVec 256), (mRun next cells (fun b => spanS b b) b).sets[k]? = some x → ∀ i, i < 256 → x.getLsbD i = atSet (mRun next cells (fun b => spanS b b) b).cell k i
  | 0, _ => fun k x h => by simp [mRun] at h
  | b + 1, hb => fun k x h i hi => by
    have ih := mRun_sets (next := next) hc b (by omega)
    have ho := mRun_ok (next := next) (sp := fun b => spanS b b) hc b (by omega)
    generalize hm : mRun next cells (fun b => spanS b b) b = st at *
    rw [mRun, hm] at h ⊢
    unfold mStep at h ⊢
    simp only at h ⊢
    generalize hr : mNew next st.cols st.sets (cellOf cells b) = r at *
    have hnew := mNew_ok (next := next) (f := cellOf cells b) ho.len ho.le ho.cols (hc b (by omega))
    rw [hr] at hnew
    have hp : r.2.2 < r.2.1.length := by omega
    -- the sets before the byte is put in
    have hold : ∀ (k : Nat) (y : BitVec 256), r.2.1[k]? = some y → y.getLsbD i = atSet st.cell k i := by
      intro k y hy
      unfold mNew at hr
      cases hf : mFind next st.cols (cellOf cells b) with
      | some j =>
        rw [hf] at hr
        subst hr
        exact ih k y hy i hi
      | none =>
        rw [hf] at hr
        subst hr
        simp only at hy
        by_cases hk : k < st.sets.length
        · rw [List.getElem?_append_left hk] at hy
          exact ih k y hy i hi
        · rw [List.getElem?_append_right (by omega)] at hy
          have h0 := (List.getElem?_eq_some_iff.1 hy).1
          simp only [List.length_singleton] at h0
          rw [show k - st.sets.length = 0 by omega, List.getElem?_cons_zero] at hy
          cases hy
          have : atSet st.cell k i = false := by
            unfold atSet
            cases hc' : st.cell[i]? with
            | none => rfl
            | some p =>
              have := ho.places p (List.mem_of_getElem? hc')
              have := ho.len
              simp; omega
          rw [this]; simp
    have hat : ∀ k, atSet (st.cell ++ [r.2.2]) k i = ((decide (i = b) && decide (k = r.2.2)) || atSet st.cell k i) := by
      intro k
      unfold atSet
      have hcl := ho.cell
      rcases Nat.lt_trichotomy i b with h | h | h
      · rw [List.getElem?_append_left (by omega), decide_eq_false (by omega)]; simp
      · subst h
        rw [List.getElem?_append_right (by omega), hcl, Nat.sub_self, List.getElem?_cons_zero, List.getElem?_eq_none (by omega)]
        by_cases hk : k = r.2.2 <;> simp [hk]
        exact fun h => hk h.symm
      · rw [List.getElem?_eq_none (by simp; omega), List.getElem?_eq_none (by omega), decide_eq_false (by omega)]; simp
    rw [hat]
    by_cases hk : k = r.2.2
    · subst hk
      rw [List.getElem?_set_self hp] at h
      cases h
      rw [BitVec.getLsbD_or, List.getD_eq_getElem?_getD, List.getElem?_eq_getElem hp, Option.getD_some, hold _ _ (List.getElem?_eq_getElem hp), spanS_bit b b i hi]
      have : (decide (b ≤ i) && decide (i ≤ b)) = decide (i = b) := by
        by_cases h : i = b
        · subst h; simp
        · rw [decide_eq_false h]
          rcases Nat.lt_or_ge i b with h1 | h1
          · rw [decide_eq_false (by omega)]; rfl
          · rw [decide_eq_false (show ¬ i ≤ b by omega)]; simp
      rw [this]
      simp [Bool.or_comm]
    · rw [List.getElem?_set_ne (Ne.symm hk)] at h
      rw [decide_eq_false hk, hold k x h]; simp
def simT (next : List (List Int)) (cells : List (BitVec 256)) (b g : Nat) : Bool := next.all fun row => row.getD (cellOf cells b) 0 == row.getD (cellOf cells g) 0
theorem alike_sim {cells : List (BitVec 256)} {next : List (List Int)} {fl : Nat} (hs : soundB cells next fl = true) {b g : Nat} (hb : b < 256) (hg : g < 256) : alikeB next (cellOf cells g) (cellOf cells b) = simT next cells b g := by
  obtain ⟨_, _, _, hrows⟩ := soundB_rows hs
  have h1 := (soundB_cells hs hb).1
  have h2 := (soundB_cells hs hg).1
  have key : ∀ row ∈ next, (row[cellOf cells g]? == row[cellOf cells b]?) = (row.getD (cellOf cells b) 0 == row.getD (cellOf cells g) 0) := by
    intro row hr
    have hl := (hrows row hr).1
    rw [List.getD_eq_getElem?_getD, List.getD_eq_getElem?_getD, List.getElem?_eq_getElem (by omega), List.getElem?_eq_getElem (by omega)]
    simp only [Option.getD_some]
    rw [Bool.eq_iff_iff]
    simp only [beq_iff_eq, Option.some.injEq]
    exact eq_comm
  unfold alikeB simT
  have hall : (next.all fun row => row[cellOf cells g]? == row[cellOf cells b]?) = next.all fun row => row.getD (cellOf cells b) 0 == row.getD (cellOf cells g) 0 := by
    rw [Bool.eq_iff_iff, List.all_eq_true, List.all_eq_true]
    constructor
    · intro h row hr; rw [← key row hr]; exact h row hr
    · intro h row hr; rw [key row hr]; exact h row hr
  rw [hall]
  by_cases he : cellOf cells g = cellOf cells b
  · rw [he]; simp
  · have : (cellOf cells g == cellOf cells b) = false := by simpa using he
    rw [this]; rfl
theorem simT_refl (next : List (List Int)) (cells : List (BitVec 256)) (a : Nat) : simT next cells a a = true := by simp [simT]
theorem findIdx_map {α β : Type} (f : α → β) (p : β → Bool) : ∀ l : List α, (l.map f).findIdx? p = l.findIdx? fun a => p (f a)
  | [] => rfl
  | a :: l => by
    rw [List.map_cons, List.findIdx?_cons, List.findIdx?_cons, findIdx_map f p l]
theorem findIdx_congr {α : Type} {p q : α → Bool} : ∀ {l : List α}, (∀ a ∈ l, p a = q a) → l.findIdx? p = l.findIdx? q
  | [], _ => rfl
  | a :: l, h => by
    rw [List.findIdx?_cons, List.findIdx?_cons, h a List.mem_cons_self, findIdx_congr fun x hx => h x (List.mem_cons_of_mem _ hx)]
theorem mRun_g {cells : List (BitVec 256)} {next : List (List Int)} {fl : Nat} (hs : soundB cells next fl = true) {sp : Nat → BitVec 256} : ∀ b, b ≤ 256 → (mRun next cells sp b).cols = (gRun (simT next cells) b).1.map (cellOf cells) ∧ (mRun next cells sp b).cell = (gRun (simT next cells) b).2
  | 0, _ => by simp [mRun, gRun]
  | b + 1, hb => by
    obtain ⟨h1, h2⟩ := mRun_g hs (sp := sp) b (by omega)
    have hok := gRun_ok (simT_refl next cells) b
    have hf : mFind next (mRun next cells sp b).cols (cellOf cells b) = (gRun (simT next cells) b).1.findIdx? fun g => simT next cells b g := by
      unfold mFind
      rw [h1, findIdx_map]
      exact findIdx_congr fun g hg => by
        obtain ⟨k, hk⟩ := List.getElem?_of_mem hg
        exact alike_sim hs (by omega) (by have := (hok.first k g hk).1; omega)
    unfold mRun mStep mNew
    rw [hf]
    cases hfi : (gRun (simT next cells) b).1.findIdx? fun g => simT next cells b g with
    | some k =>
      rw [gRun_some hfi]
      simp only
      exact ⟨h1, by rw [h2]⟩
    | none =>
      rw [gRun_none hfi]
      simp only
      exact ⟨by rw [h1, List.map_append]; rfl, by rw [h2, h1, List.length_map]⟩
attribute [local irreducible] mRun gRun
/-- What dfa.Cells tells of a table's automaton, by bytes. -/
theorem sets_of_g {cells : List (BitVec 256)} {next : List (List Int)} {final : List Bool} (hs : soundB cells next final.length = true) : (madeM cells next final).sets.length = (gRun (simT next cells) 256).1.length ∧
    ∀ (k : Nat) (x : BitVec 256), (madeM cells next final).sets[k]? = some x → ∀ i, i < 256 → x.getLsbD i = atSet (gRun (simT next cells) 256).2 k i := by
  have hc := fun b hb => (soundB_cells hs (b := b) hb).1
  obtain ⟨h1, h2⟩ := mRun_g hs (sp := fun b => spanS b b) 256 (Nat.le_refl _)
  have ho := mRun_ok (next := next) (sp := fun b => spanS b b) hc 256 (Nat.le_refl _)
  refine ⟨?_, fun k x hx i hi => ?_⟩
  · simp only [madeM]
    rw [← ho.len, h1, List.length_map]
  · rw [← h2]
    exact mRun_sets (next := next) hc 256 (Nat.le_refl _) k x hx i hi

end Go.Proofs.YtfbghcpdinlmcaaGreatDoor
/- The cells of a made automaton: a parting of the bytes, in the order of their least ones, that every step keeps to. -/
set_option linter.unusedVariables false
set_option linter.unusedSimpArgs false
set_option maxRecDepth 100000
namespace Go.Proofs.YtfbghcpdinlmcaaGreatDoor
open Go.VC
attribute [local irreducible] mRun gRun

structure CellsOk (o : Option AM) (ls : List Nat) : Prop where
  len : ls.length = (cellsM o).length
  up : ls.Pairwise (· < ·)
  least : ∀ (k : Nat) (c : BitVec 256), (cellsM o)[k]? = some c → ∃ l, ls[k]? = some l ∧ l < 256 ∧ (nextM c 0).1 = l ∧ c.getLsbD l = true
  keeps : ∀ (k : Nat) (c : BitVec 256) (l b : Nat), (cellsM o)[k]? = some c → ls[k]? = some l → b < 256 → c.getLsbD b = true → l ≤ b ∧ ∀ q : Int, 0 ≤ q → q < stN o → stepM o q b = stepM o q l
  cols : ∀ A, o = some A → ∀ k, k < A.sets.length → ∃ b, b < 256 ∧ A.cell[b]? = some k
  part : ∀ b, b < 256 → ∃ (k : Nat) (c : BitVec 256), (cellsM o)[k]? = some c ∧ c.getLsbD b = true ∧ ∀ (k' : Nat) (c' : BitVec 256), (cellsM o)[k']? = some c' → c'.getLsbD b = true → k' = k

theorem gRun_up {sim : Nat → Nat → Bool} (hr : ∀ a, sim a a = true) : ∀ b, (gRun sim b).1.Pairwise (· < ·)
  | 0 => by rw [gRun]; exact List.Pairwise.nil
  | b + 1 => by
    have ih := gRun_up hr b
    cases hf : (gRun sim b).1.findIdx? (fun g => sim b g) with
    | some k => rw [gRun_some hf]; exact ih
    | none =>
      rw [gRun_none hf]
      refine List.pairwise_append.2 ⟨ih, List.pairwise_singleton _ _, fun a ha c hc => ?_⟩
      rw [List.mem_singleton] at hc
      subst hc
      obtain ⟨k, hk⟩ := List.getElem?_of_mem ha
      exact ((gRun_ok hr c).first k a hk).1
theorem nextM_eq {c : BitVec 256} {l : Nat} (hl : l < 256) (h1 : c.getLsbD l = true) (h2 : ∀ b, b < l → c.getLsbD b = false) : (nextM c 0).1 = l := by
  have hf : ((List.range 256).find? fun b => decide (0 ≤ b) && c.getLsbD b) = some l := by
    rw [List.find?_range_eq_some]
    exact ⟨by simp [h1], by simpa using hl, fun j hj => by simp [h2 j hj]⟩
  unfold nextM
  rw [hf]
theorem cells_ok (cells : List (BitVec 256)) (next : List (List Int)) (final : List Bool) : ∃ ls, CellsOk (autoOf cells next final) ls := by
  unfold autoOf
  cases hs : soundB cells next final.length with
  | false =>
    refine ⟨[0], rfl, List.pairwise_singleton _ _, fun k c hc => ?_, fun k c l b hc hl hb hcb => ?_, fun A hb => ?_, fun b hb => ?_⟩
    · have hk : k = 0 := by have := (List.getElem?_eq_some_iff.1 hc).1; simpa [cellsM] using this
      subst hk
      have : c = BitVec.allOnes 256 := by simpa [cellsM] using hc.symm
      subst this
      exact ⟨0, rfl, by decide, nextM_eq (by decide) (by decide) (fun b hb => by omega), by decide⟩
    · have hk : k = 0 := by have := (List.getElem?_eq_some_iff.1 hc).1; simpa [cellsM] using this
      subst hk
      have : l = 0 := by simpa using hl.symm
      subst this
      refine ⟨Nat.zero_le _, fun q h0 h1 => ?_⟩
      simp only [Bool.false_eq_true, if_false] at h1 ⊢
      simp only [stN] at h1
      obtain rfl : q = 0 := by omega
      rfl
    · cases hb
    · refine ⟨0, BitVec.allOnes 256, rfl, ?_, fun k' c' h _ => ?_⟩
      · rw [BitVec.getLsbD_allOnes]; simp [hb]
      · have := (List.getElem?_eq_some_iff.1 h).1
        simpa [cellsM] using this
  | true =>
    simp only [if_true]
    obtain ⟨h1, h2⟩ := sets_of_g hs
    have hg := gRun_ok (simT_refl next cells) 256
    refine ⟨(gRun (simT next cells) 256).1, h1.symm, gRun_up (simT_refl next cells) 256, fun k c hc => ?_, fun k c l b hc hl hb hcb => ?_, fun A hA k hk => ?_, fun b hb => ?_⟩
    · have hk : k < (gRun (simT next cells) 256).1.length := by rw [← h1]; exact (List.getElem?_eq_some_iff.1 hc).1
      obtain ⟨g, hgk⟩ := get_some hk
      obtain ⟨g1, g2⟩ := hg.first k g hgk
      have hbit := h2 k c hc
      refine ⟨g, hgk, g1, nextM_eq g1 (by rw [hbit g g1]; simp [atSet, g2]) (fun b hb => ?_), by rw [hbit g g1]; simp [atSet, g2]⟩
      rw [hbit b (by omega)]
      unfold atSet
      rw [beq_eq_false_iff_ne]
      intro hp
      have := (hg.sig b k g hp hgk).2
      omega
    · rw [h2 k c hc b hb] at hcb
      have hp : (gRun (simT next cells) 256).2[b]? = some k := by simpa [atSet] using hcb
      obtain ⟨s1, s2⟩ := hg.sig b k l hp hl
      refine ⟨s2, fun q q0 q1 => ?_⟩
      obtain ⟨n, rfl⟩ := Int.eq_ofNat_of_zero_le q0
      have hl256 := (hg.first k l hl).1
      have hq : n < next.length := by simp only [stN, madeM, List.length_map] at q1; omega
      obtain ⟨row, hrow⟩ := get_some hq
      rw [madeM_step hs hrow hb, madeM_step hs hrow hl256]
      unfold simT at s1
      have := List.all_eq_true.1 s1 row (List.mem_of_getElem? hrow)
      simpa using this
    · cases hA
      obtain ⟨g, hgk⟩ := get_some (l := (gRun (simT next cells) 256).1) (k := k) (by rw [← h1]; exact hk)
      obtain ⟨g1, g2⟩ := hg.first k g hgk
      refine ⟨g, g1, ?_⟩
      have hm := (mRun_g hs (sp := fun b => spanS b b) 256 (Nat.le_refl _)).2
      simp only [madeM]
      rw [hm]; exact g2
    · obtain ⟨p, hp⟩ := get_some (l := (gRun (simT next cells) 256).2) (k := b) (by rw [hg.plen]; exact hb)
      have hpl := hg.lt p (List.mem_of_getElem? hp)
      obtain ⟨c, hc⟩ := get_some (l := (madeM cells next final).sets) (k := p) (by rw [h1]; exact hpl)
      refine ⟨p, c, hc, by rw [h2 p c hc b hb]; simp [atSet, hp], fun k' c' hc' hb' => ?_⟩
      rw [h2 k' c' hc' b hb] at hb'
      have : (gRun (simT next cells) 256).2[b]? = some k' := by simpa [atSet] using hb'
      rw [hp] at this
      exact (Option.some.inj this).symm
end Go.Proofs.YtfbghcpdinlmcaaGreatDoor
/- ambig.reps: the walk. -/
set_option linter.unusedVariables false
set_option linter.unusedSimpArgs false
set_option maxRecDepth 100000
namespace Go.VC
section
variable {α : Type} {T : Ty α} {e : TypeId} {a : Option Addr} {n cap : Nat} {xs : List α} {B : Nat → Prop} {H0 H : Heap} {ps : List Pc}
/-- One own slice appended to another. -/
theorem appSS {P : Program} {t ty by_ : Nat} {z : Value} {a2 : Option Addr} {n2 cap2 : Nat} {e2 : TypeId} {ys : List α} {K : Value → Heap → Prop} (st : StB B H0 H ps) (i j : Nat) (ht : SlT P t e T.size by_ z) (hp : ps[i]? = some (pS T e a n cap xs)) (hq : ps[j]? = some (pS T e2 a2 n2 cap2 ys))
    (hne : 0 < ys.length) (h1 : T.Ones) (h63 : xs.length + ys.length ≤ 4194304) (hby : by_ ≤ 1024)
    (k : ∀ a' cap' H', StB B H0 H' (ps.set i (pS T e a' (xs.length + ys.length) cap' (xs ++ ys))) → Agr (fun k => k < H.size ∧ ¬ slB (.slice a n cap) k) H H' → K (.slice a' (xs.length + ys.length) cap') H') :
    VEff P (Builtin.append_ #[t, t] ty [.slice a n cap, .slice a2 n2 cap2].toArray) H K := by
  obtain ⟨cs, ⟨h0, h2⟩, h3⟩ := (st.at_ j hq).1
  have hn2 := st.len j hq
  rcases h2 with ⟨h2, h4⟩ | ⟨b, c, l, h2, h4, h5, h6, h7, h8, h9⟩
  · omega
  · injection h2 with g1 g2 g3
    subst g1; subst g3
    refine appO st i ht hp (q := b) (o := 0) (ds := cs) (h5.cells fun j v hv => ?_) h3 hn2 (h1.reps h3) h63 hby k
    rw [← h9] at hv
    rw [Nat.zero_add]
    rw [List.getElem?_take] at hv
    split at hv
    · exact hv
    · cases hv
end
end Go.VC
namespace Go.Proofs.YtfbghcpdinlmcaaGreatDoor
open Go.VC
attribute [local irreducible] mRun gRun atRun
theorem cells_pos {o : Option AM} {ls : List Nat} (h : CellsOk o ls) : 0 < (cellsM o).length := by
  obtain ⟨k, c, hk, -⟩ := h.part 0 (by decide)
  exact Nat.lt_of_le_of_lt (Nat.zero_le k) (List.getElem?_eq_some_iff.1 hk).1
theorem cells_le {S : Nat → Prop} {H : Heap} {v : Value} {o : Option AM} (h : AutoV S H v o) : (cellsM o).length ≤ 256 := by
  cases o with
  | none => decide
  | some A => obtain ⟨_, _, _, hok, _⟩ := h; exact hok.sl
end Go.Proofs.YtfbghcpdinlmcaaGreatDoor
/- The nodes of ambig's graph: as keys of maps, in memory. -/
set_option linter.unusedVariables false
set_option linter.unusedSimpArgs false
set_option maxRecDepth 100000
namespace Go.Proofs.YtfbghcpdinlmcaaGreatDoor
open Go.VC

/-- A node: its stage, where its readers are. -/
structure Nd where
  s : Int
  x : Int
  y : Int
deriving DecidableEq
def Nd.Ok (n : Nd) : Prop := inK .i64 n.s ∧ inK .i64 n.x ∧ inK .i64 n.y
def ndV (n : Nd) : Value := .agg #[.int .i64 n.s, .int .i64 n.x, .int .i64 n.y]
def ndL (n : Nd) : List Value := [.int .i64 n.s, .int .i64 n.x, .int .i64 n.y]
/-- Nodes in memory. -/
def tNd : Ty Nd where
  size := 3
  rep _ _ cs n := cs = ndL n
  len h := by rw [h]; rfl
  frame h _ := h
  mono h _ := h
end Go.Proofs.YtfbghcpdinlmcaaGreatDoor
/- Graphs of nodes with ends: the least word that leads to an end; plain law. -/
set_option linter.unusedVariables false
set_option linter.unusedSimpArgs false
namespace Go.Proofs.YtfbghcpdinlmcaaGreatDoor

structure Gr where
  next : Nd → Nat → List Nd
  ends : Nd → Bool
/-- The word w leads from n to an end. -/
def Leads (g : Gr) : List Nat → Nd → Prop
  | [], n => g.ends n = true
  | b :: w, n => ∃ t, t ∈ g.next n b ∧ Leads g w t
/-- .. from some node of P. -/
def LeadsP (g : Gr) (P : Nd → Prop) (w : List Nat) : Prop := ∃ n, P n ∧ Leads g w n
/-- Words of one length: no later in order. -/
def lexL : List Nat → List Nat → Prop
  | a :: s, b :: t => a < b ∨ (a = b ∧ lexL s t)
  | _, _ => True
def bytes_ (w : List Nat) : Prop := ∀ b ∈ w, b < 256
/-- Of the words of k bytes that lead from P to an end w is the first. -/
def FirstOf (g : Gr) (P : Nd → Prop) (k : Nat) (w : List Nat) : Prop := w.length = k ∧ bytes_ w ∧ LeadsP g P w ∧ ∀ u, u.length = k → bytes_ u → LeadsP g P u → lexL w u
end Go.Proofs.YtfbghcpdinlmcaaGreatDoor

/- Graphs of nodes: how far it is to an end; plain law. -/
set_option linter.unusedVariables false
set_option linter.unusedSimpArgs false
namespace Go.Proofs.YtfbghcpdinlmcaaGreatDoor

/-- What can be reached from a by the bytes of by_. -/
inductive Reach (g : Gr) (by_ : List Nat) (a : Nd) : Nd → Prop
  | refl : Reach g by_ a a
  | step {n t : Nd} {b : Nat} (h : Reach g by_ a n) (hb : b ∈ by_) (ht : t ∈ g.next n b) : Reach g by_ a t
/-- The distances to an end, of all that can be reached. -/
structure DistOk (g : Gr) (by_ : List Nat) (a : Nd) (left : Nd → Option Nat) : Prop where
  ends : ∀ n, Reach g by_ a n → g.ends n = true → left n = some 0
  pred : ∀ n k, left n = some k → ∀ p b, Reach g by_ a p → b ∈ by_ → n ∈ g.next p b → ∃ j, j ≤ k + 1 ∧ left p = some j
  word : ∀ n k, left n = some k → Reach g by_ a n ∧ ∃ w, w.length = k ∧ (∀ b ∈ w, b ∈ by_) ∧ Leads g w n
section
variable {g : Gr} {by_ : List Nat} {a : Nd} {left : Nd → Option Nat}
variable (hby : ∀ c, c < 256 → ∃ r ∈ by_, r ≤ c ∧ ∀ n, g.next n r = g.next n c)
include hby
end
end Go.Proofs.YtfbghcpdinlmcaaGreatDoor

/- Distances to an end by a queue, from the ends back; plain law. -/
set_option linter.unusedVariables false
set_option linter.unusedSimpArgs false
namespace Go.Proofs.YtfbghcpdinlmcaaGreatDoor
open Go.VC
/-- What leads to n. -/
def PredsOk (g : Gr) (by_ : List Nat) (a n : Nd) (left : Nd → Option Nat) (k : Nat) : Prop := ∀ p b, Reach g by_ a p → b ∈ by_ → n ∈ g.next p b → ∃ j, j ≤ k + 1 ∧ left p = some j
/-- The queue, no element out; k is the least distance that it may still hold. -/
structure BInv (g : Gr) (by_ : List Nat) (a : Nd) (left : Nd → Option Nat) (todo : List Nd) (k : Nat) : Prop where
  ends : ∀ n, Reach g by_ a n → g.ends n = true → left n = some 0
  word : ∀ n j, left n = some j → Reach g by_ a n ∧ ∃ w, w.length = j ∧ (∀ b ∈ w, b ∈ by_) ∧ Leads g w n
  q : ∀ n ∈ todo, ∃ j, left n = some j ∧ k ≤ j
  up : ∀ n j, left n = some j → j ≤ k + 1
  sorted : todo.Pairwise fun n p => ∀ i j, left n = some i → left p = some j → i ≤ j
  done : ∀ n j, left n = some j → n ∉ todo → PredsOk g by_ a n left j
/-- .. element n, at distance k, is out; those that lead to it are gone through: what holds of d is done. -/
structure BMid (g : Gr) (by_ : List Nat) (a : Nd) (left : Nd → Option Nat) (todo : List Nd) (n : Nd) (k : Nat) (d : Nd → Prop) : Prop where
  ends : ∀ n, Reach g by_ a n → g.ends n = true → left n = some 0
  word : ∀ n j, left n = some j → Reach g by_ a n ∧ ∃ w, w.length = j ∧ (∀ b ∈ w, b ∈ by_) ∧ Leads g w n
  here : left n = some k
  q : ∀ n ∈ todo, ∃ j, left n = some j ∧ k ≤ j
  up : ∀ n j, left n = some j → j ≤ k + 1
  sorted : todo.Pairwise fun n p => ∀ i j, left n = some i → left p = some j → i ≤ j
  done : ∀ m j, left m = some j → m ∉ todo → m ≠ n → PredsOk g by_ a m left j
  now : ∀ p, d p → ∃ j, j ≤ k + 1 ∧ left p = some j
section
variable {g : Gr} {by_ : List Nat} {a n p : Nd} {left : Nd → Option Nat} {todo : List Nd} {k : Nat} {d : Nd → Prop}
end
end Go.Proofs.YtfbghcpdinlmcaaGreatDoor

/- All that can be reached, in the order in which it is found, and what leads to it; plain law. -/
set_option linter.unusedVariables false
set_option linter.unusedSimpArgs false
namespace Go.Proofs.YtfbghcpdinlmcaaGreatDoor
/-- The nodes found so far; bk t p: p is listed as one that leads to t; what holds of d has been gone through. -/
structure RInv (g : Gr) (by_ : List Nat) (a : Nd) (order : List Nd) (bk : Nd → Nd → Prop) (d : Nd → Nat → Nd → Prop) : Prop where
  first : order[0]? = some a
  nodup : order.Nodup
  reach : ∀ n ∈ order, Reach g by_ a n
  back : ∀ t p, bk t p → Reach g by_ a p ∧ ∃ b, b ∈ by_ ∧ t ∈ g.next p b
  done : ∀ n b t, d n b t → t ∈ order ∧ bk t n
section
variable {g : Gr} {by_ : List Nat} {a n t : Nd} {b : Nat} {order : List Nd} {bk bk' : Nd → Nd → Prop} {d : Nd → Nat → Nd → Prop}
end
end Go.Proofs.YtfbghcpdinlmcaaGreatDoor

/- Rows of nodes, each with the least word of one length that leads to it; plain law. -/
set_option linter.unusedVariables false
set_option linter.unusedSimpArgs false
namespace Go.Proofs.YtfbghcpdinlmcaaGreatDoor

/-! ### the order -/
/-! ### ways -/
/-- w leads from n to t. -/
def To (g : Gr) : List Nat → Nd → Nd → Prop
  | [], n, t => n = t
  | b :: w, n, t => ∃ m, m ∈ g.next n b ∧ To g w m t
/-! ### rows -/
abbrev NW := Nd × List Nat
structure RowOk (g : Gr) (by_ : List Nat) (a : Nd) (L : Nat) (F : List NW) : Prop where
  nd : (F.map (·.1)).Nodup
  ok : ∀ x ∈ F, x.2.length = L ∧ (∀ b ∈ x.2, b ∈ by_) ∧ To g x.2 a x.1
  all : ∀ w t, w.length = L → (∀ b ∈ w, b ∈ by_) → To g w a t → ∃ x ∈ F, x.1 = t ∧ lexL x.2 w
/-- The row of words of one byte more, while it is made: what holds of d has been put in. -/
structure RowMid (g : Gr) (by_ : List Nat) (a : Nd) (L : Nat) (F : List NW) (d : Nd → List Nat → Prop) : Prop where
  nd : (F.map (·.1)).Nodup
  ok : ∀ x ∈ F, x.2.length = L ∧ (∀ b ∈ x.2, b ∈ by_) ∧ To g x.2 a x.1
  all : ∀ t w, d t w → w.length = L → ∃ x ∈ F, x.1 = t ∧ lexL x.2 w
section
variable {g : Gr} {by_ : List Nat} {a n t : Nd} {L : Nat} {F F' : List NW} {d d' : Nd → List Nat → Prop} {w : List Nat} {r : Bool}
variable (hby : ∀ c, c < 256 → ∃ r ∈ by_, r ≤ c ∧ ∀ n, g.next n r = g.next n c)
include hby
end
end Go.Proofs.YtfbghcpdinlmcaaGreatDoor

/- The graphs of Meets, Cat and Iter, and what their words say; plain law. -/
set_option linter.unusedVariables false
set_option linter.unusedSimpArgs false
namespace Go.Proofs.YtfbghcpdinlmcaaGreatDoor
open Go.VC
/-- Where a word leads. -/
def runL (o : Option AM) (w : List Nat) (q : Int) : Int := w.foldl (fun q b => stepM o q b) q
theorem runL_cons (o : Option AM) (c : Nat) (w : List Nat) (q : Int) : runL o (c :: w) q = runL o w (stepM o q c) := rfl
def accL (o : Option AM) (w : List Nat) : Bool := finM o (runL o w 0)
def root : Nd := ⟨0, 0, 0⟩

section
variable {a b : Option AM}
end
section
variable {a : Option AM}
end
end Go.Proofs.YtfbghcpdinlmcaaGreatDoor
/- ambig's graphs in memory; maps of slices that begin with nil ones. -/
set_option linter.unusedVariables false
set_option linter.unusedSimpArgs false
set_option maxRecDepth 100000
namespace Go.VC
section
variable {α β : Type} {Ok : α → Prop} {enc : α → Value} {T : Ty β} {e : TypeId} {b : Nat} {m : α → Option Value} {B : Nat → Prop} {H0 H H' : Heap} {ps : List Pc}
end
end Go.VC
namespace Go.Proofs.YtfbghcpdinlmcaaGreatDoor
open Go.VC
/-- What is asked of a graph: its bytes, its nodes, their numbers. -/
structure GraphOk (g : Gr) (by_ : List Nat) (M C : Nat) : Prop where
  byl : ∀ b ∈ by_, b < 256
  nb : by_.length ≤ 256
  ok : ∀ n, Reach g by_ root n → n.Ok
  card : ∀ l : List Nd, l.Nodup → (∀ n ∈ l, Reach g by_ root n) → l.length ≤ M
  occ : ∀ n b t, Reach g by_ root n → b ∈ by_ → (g.next n b).count t ≤ C
  c0 : 1 ≤ C
  big : C * (256 * M) ≤ 5864062014805
/-- A graph in memory. -/
structure GraphV (S : Nat → Prop) (H : Heap) (v : Value) (g : Gr) (by_ : List Nat) : Prop where
  out : ∃ (pg : Nat) (ba : Option Addr) (bc : Nat) (f e : FuncId) (fs cs es ds : List Value), v = .pointer (some ⟨pg, 0, none⟩) ∧ S pg ∧
    Blk H pg 206 [.slice ba by_.length bc, .func (.func f) fs.toArray cs.toArray, .func (.func e) es.toArray ds.toArray] ∧ SlD (tInt .u8) S H ba bc (by_.map fun (b : Nat) => (b : Int)) ∧
    (∀ H', Agr S H H' → ∀ n b, Reach g by_ root n → b ∈ by_ → FnOk Tryz.prog f (fs ++ [ndV n, .int .u8 (b : Int)] ++ cs).toArray H' fun v H'' => Agr (Old H') H' H'' ∧ SlO tNd none_ H'' H'.size 208 v (g.next n b)) ∧
    (∀ H', Agr S H H' → ∀ n, Reach g by_ root n → Pure Tryz.prog e (es ++ [ndV n] ++ ds).toArray H' (.bool (g.ends n)))
end Go.Proofs.YtfbghcpdinlmcaaGreatDoor

/- ambig's reach: the walk. -/
set_option linter.unusedVariables false
set_option linter.unusedSimpArgs false
set_option maxRecDepth 100000
namespace Go.Proofs.YtfbghcpdinlmcaaGreatDoor
open Go.VC
end Go.Proofs.YtfbghcpdinlmcaaGreatDoor

/- ambig's first, once the distances are known: byte by byte; plain law. -/
set_option linter.unusedVariables false
set_option linter.unusedSimpArgs false
namespace Go.VC
end Go.VC
namespace Go.Proofs.YtfbghcpdinlmcaaGreatDoor
open Go.VC
/-- What is left of the word that is asked for: r bytes, from one of P on. -/
structure Pre (g : Gr) (a : Nd) (lf : Nd → Option Nat) (L r : Nat) (w : List Nat) (P : Nd → Prop) : Prop where
  len : w.length + r = L
  fst : ∀ v, FirstOf g P r v → FirstOf g (· = a) L (w ++ v)
  all : ∀ n, P n → lf n = some r
  ne : ∃ n, P n
section
variable {g : Gr} {by_ : List Nat} {a : Nd} {lf : Nd → Option Nat} {L k b : Nat} {w : List Nat} {P Q : Nd → Prop}
variable (hby : ∀ c, c < 256 → ∃ r ∈ by_, r ≤ c ∧ ∀ n, g.next n r = g.next n c)
include hby
end
def bA (w : List Nat) : ByteArray := ⟨(w.map UInt8.ofNat).toArray⟩
end Go.Proofs.YtfbghcpdinlmcaaGreatDoor

/- ambig's first: the walk. -/
set_option linter.unusedVariables false
set_option linter.unusedSimpArgs false
set_option maxRecDepth 100000
namespace Go.Proofs.YtfbghcpdinlmcaaGreatDoor
open Go.VC
/-- The nodes whose distance is known. -/
structure Seen (g : Gr) (by_ : List Nat) (lf : Nd → Option Nat) (seen : List Nd) : Prop where
  nd : seen.Nodup
  mem : ∀ n, (lf n).isSome = true ↔ n ∈ seen
  le : ∀ n j, lf n = some j → j ≤ seen.length
  rch : ∀ n ∈ seen, Reach g by_ root n
end Go.Proofs.YtfbghcpdinlmcaaGreatDoor
/- The graphs of Meets, Cat and Iter are what the walks ask for; cuts; plain law. -/
set_option linter.unusedVariables false
set_option linter.unusedSimpArgs false
set_option maxRecDepth 100000
namespace Go.Proofs.YtfbghcpdinlmcaaGreatDoor
open Go.VC
attribute [local irreducible] mRun gRun atRun
/-- A state of o. -/
def inA (o : Option AM) (q : Int) : Prop := 0 ≤ q ∧ q < stN o
/-- o's steps stay among its states, of which there are at most 65536. -/
structure StepOk (o : Option AM) : Prop where
  n1 : 1 ≤ stN o
  n2 : stN o ≤ 65536
  step : ∀ q b, inA o q → b < 256 → inA o (stepM o q b)
theorem step_rng0 {S : Nat → Prop} {H : Heap} {v : Value} {o : Option AM} (h : AutoV S H v o) {q b : Nat} (hq : q < stN o) (hb : b < 256) : 0 ≤ stepM o (q : Int) b ∧ stepM o (q : Int) b < stN o := by
  cases o with
  | none =>
    have : q = 0 := by simp only [stN] at hq; omega
    subst this
    decide +revert
  | some A =>
    obtain ⟨pb, rfl, hown, hok, _⟩ := h
    exact stepM_range hok (by omega) (by simp only [stN] at hq; omega) hb
theorem AutoV.steps {S : Nat → Prop} {H : Heap} {v : Value} {o : Option AM} (h : AutoV S H v o) : StepOk o :=
  ⟨(stN_le h).1, (stN_le h).2, fun q b hq hb => by
    obtain ⟨n, rfl⟩ := Int.eq_ofNat_of_zero_le hq.1
    exact step_rng0 h (by have := hq.2; omega) hb⟩
/-- Nodes of at most K stages behind the first. -/
structure InR (K : Nat) (n : Nd) : Prop where
  s0 : 0 ≤ n.s
  s1 : n.s ≤ K
  x0 : 0 ≤ n.x
  x1 : n.x < 65536
  y0 : 0 ≤ n.y
  y1 : n.y < 65536
  z : n.s = 0 → n.y = 0
section
variable {a b : Option AM}
end
end Go.Proofs.YtfbghcpdinlmcaaGreatDoor

/- Texts and their cuts; plain law. -/
set_option linter.unusedVariables false
set_option linter.unusedSimpArgs false
set_option maxRecDepth 100000
namespace Go.Proofs.YtfbghcpdinlmcaaGreatDoor
open Go.VC
attribute [local irreducible] mRun gRun atRun
theorem bA_size (w : List Nat) : (bA w).size = w.length := by unfold bA; simp [ByteArray.size]
theorem bA_data (w : List Nat) : (bA w).data.toList = w.map UInt8.ofNat := by unfold bA; simp
theorem acc_bA {o : Option AM} {w : List Nat} (h : bytes_ w) : acceptsM o (bA w) = accL o w := by
  unfold acceptsM accL runM runL
  rw [bA_size, bA_data, List.take_of_length_le (by simp), List.foldl_map]
  congr 1
  have : ∀ (w : List Nat) (q : Int), bytes_ w → w.foldl (fun q b => stepM o q (UInt8.ofNat b).toNat) q = w.foldl (fun q b => stepM o q b) q := fun w => by
    induction w with
    | nil => intro q _; rfl
    | cons c w ih =>
      intro q hb
      have hc := hb c List.mem_cons_self
      have e : (UInt8.ofNat c).toNat = c := by simp; omega
      rw [List.foldl_cons, List.foldl_cons, e]
      exact ih _ fun d hd => hb d (List.mem_cons_of_mem _ hd)
  exact this w 0 h
/-- The bytes of a text. -/
def unB (s : ByteArray) : List Nat := s.data.toList.map UInt8.toNat
theorem unB_bytes (s : ByteArray) : bytes_ (unB s) := fun b hb => by
  obtain ⟨x, -, rfl⟩ := List.mem_map.1 hb
  exact UInt8.toNat_lt x
theorem bA_unB (s : ByteArray) : bA (unB s) = s := by
  apply text_inj
  rw [bA_data]
  unfold unB
  rw [List.map_map]
  conv => rhs; rw [← List.map_id s.data.toList]
  apply List.map_congr_left
  intro x _
  simp
end Go.Proofs.YtfbghcpdinlmcaaGreatDoor
/- The functions that Cat gives to its graph: the walks. -/
set_option linter.unusedVariables false
set_option linter.unusedSimpArgs false
set_option maxRecDepth 100000
namespace Go.Proofs.YtfbghcpdinlmcaaGreatDoor
open Go.VC
attribute [local irreducible] mRun gRun atRun
/-- A variable of its own that holds an automaton. -/
structure VarA (S : Nat → Prop) (H : Heap) (p : Nat) (o : Option AM) : Prop where
  out : ∃ v, S p ∧ Blk H p 23 [v] ∧ AutoV S H v o
end Go.Proofs.YtfbghcpdinlmcaaGreatDoor

/- ambig's cut and Cat: the walks. -/
set_option linter.unusedVariables false
set_option linter.unusedSimpArgs false
set_option maxRecDepth 100000
namespace Go.Proofs.YtfbghcpdinlmcaaGreatDoor
open Go.VC
attribute [local irreducible] mRun gRun atRun
end Go.Proofs.YtfbghcpdinlmcaaGreatDoor

/- ambig's Iter and its functions: the walks. -/
set_option linter.unusedVariables false
set_option linter.unusedSimpArgs false
set_option maxRecDepth 100000
namespace Go.Proofs.YtfbghcpdinlmcaaGreatDoor
open Go.VC
attribute [local irreducible] mRun gRun atRun
/-- A variable that holds Iter's moves. -/
structure VarF (S : Nat → Prop) (H : Heap) (p pa : Nat) : Prop where
  in_ : S p
  blk : Blk H p 269 [.func (.func 148) #[] #[.pointer (some ⟨pa, 0, none⟩)]]
end Go.Proofs.YtfbghcpdinlmcaaGreatDoor

/- ambig's Iter: the walk. -/
set_option linter.unusedVariables false
set_option linter.unusedSimpArgs false
set_option maxRecDepth 100000
namespace Go.Proofs.YtfbghcpdinlmcaaGreatDoor
open Go.VC
attribute [local irreducible] mRun gRun atRun
end Go.Proofs.YtfbghcpdinlmcaaGreatDoor
/- The document's Cells: the walk. -/
set_option linter.unusedVariables false
set_option linter.unusedSimpArgs false
set_option maxRecDepth 100000
namespace Go.Proofs.YtfbghcpdinlmcaaGreatDoor
open Go.VC
attribute [local irreducible] mRun atRun gRun

end Go.Proofs.YtfbghcpdinlmcaaGreatDoor
/- The program's automaton and the document's, side by side. -/
set_option linter.unusedVariables false
set_option linter.unusedSimpArgs false
set_option maxRecDepth 100000
namespace Go.Proofs.YtfbghcpdinlmcaaGreatDoor
open Go.VC
attribute [local irreducible] mRun atRun

/-- The program's automaton and the document's are alike. -/
structure Both (o : Option AM) (D : DM) : Prop where
  ok : D.Ok
  n : stN o = D.next.length
  step : ∀ (q : Int) (b : Nat), b < 256 → stepM o q b = stepD D q b
  fin : ∀ q : Int, finM o q = finD D q
  alive : ∀ q : Int, aliveM o q = aliveD D q
theorem both_of (cells : List (BitVec 256)) (next : List (List Int)) (final : List Bool) : Both (autoOf cells next final) (dfaOf cells next final) :=
  ⟨dfaOf_ok _ _ _, both_n _ _ _, fun q b hb => both_step _ _ _ q hb, both_final _ _ _, both_alive _ _ _⟩
section
variable {o : Option AM} {D : DM}
end
end Go.Proofs.YtfbghcpdinlmcaaGreatDoor
/- The document's side of layer 9: the bytes that stand for all, the game's rules. -/
set_option linter.unusedVariables false
set_option linter.unusedSimpArgs false
set_option maxRecDepth 100000
namespace Go.Proofs.YtfbghcpdinlmcaaGreatDoor
open Go.VC
attribute [local irreducible] mRun gRun atRun

/-! ### cells as sets of bits -/
end Go.Proofs.YtfbghcpdinlmcaaGreatDoor
/- Automata of the document in memory, parted bytes; two states of memory one behind the other. -/
set_option linter.unusedVariables false
set_option linter.unusedSimpArgs false
set_option maxRecDepth 100000
namespace Go.VC
end Go.VC
namespace Go.Proofs.YtfbghcpdinlmcaaGreatDoor
open Go.VC
attribute [local irreducible] mRun gRun atRun
end Go.Proofs.YtfbghcpdinlmcaaGreatDoor
/- The document's Determinize: the walk. -/
set_option linter.unusedVariables false
set_option linter.unusedSimpArgs false
set_option maxRecDepth 100000
namespace Go.Proofs.YtfbghcpdinlmcaaGreatDoor
open Go.VC
attribute [local irreducible] mRun gRun atRun
end Go.Proofs.YtfbghcpdinlmcaaGreatDoor
/- The least bytes of the atoms are the same on both sides: the plain law. -/
set_option linter.unusedVariables false
set_option linter.unusedSimpArgs false
set_option maxRecDepth 100000
namespace Go.Proofs.YtfbghcpdinlmcaaGreatDoor
open Go.VC
def leastB (cells : List (BitVec 256)) (g : Nat) : Bool := (List.range g).all fun h => !sigEq cells g h
theorem sigEq_iff {cells : List (BitVec 256)} {a b : Nat} : sigEq cells a b = true ↔ ∀ c ∈ cells, c.getLsbD a = c.getLsbD b := by
  unfold sigEq
  simp
theorem leastB_iff {cells : List (BitVec 256)} {g : Nat} : leastB cells g = true ↔ ∀ h, h < g → sigEq cells g h = false := by
  unfold leastB
  simp
theorem exists_least {cells : List (BitVec 256)} {b : Nat} : ∀ h, sigEq cells b h = true → ∃ g, g ≤ h ∧ sigEq cells b g = true ∧ leastB cells g = true := by
  intro h
  induction h using Nat.strongRecOn with
  | _ h ih =>
    intro hb
    by_cases hl : leastB cells h = true
    · exact ⟨h, Nat.le_refl _, hb, hl⟩
    · have : ∃ h', h' < h ∧ sigEq cells h h' = true := by
        apply Classical.byContradiction
        intro hno
        apply hl
        rw [leastB_iff]
        intro h' hh'
        cases hs : sigEq cells h h' with
        | false => rfl
        | true => exact absurd ⟨h', hh', hs⟩ hno
      obtain ⟨h', hlt, hs⟩ := this
      obtain ⟨g, g1, g2, g3⟩ := ih h' hlt (sigEq_iff.2 fun c hc => (sigEq_iff.1 hb c hc).trans (sigEq_iff.1 hs c hc))
      exact ⟨g, by omega, g2, g3⟩
/-! ### the blocks -/
def Apart_ (x y : BitVec 256) : Prop := ∀ c, x.getLsbD c = true → y.getLsbD c = false
theorem cut_mem {s b x : BitVec 256} (h : x ∈ cutB s b) : x = b &&& s ∨ x = b &&& ~~~s := by
  have := (List.mem_filter.1 h).1
  simpa using this
theorem blocks_apart (sets : List (BitVec 256)) : (blocksM sets).Pairwise Apart_ := by
  have key : ∀ (rest bl : List (BitVec 256)), bl.Pairwise Apart_ → (rest.foldl partB bl).Pairwise Apart_ := by
    intro rest
    induction rest with
    | nil => exact fun bl h => h
    | cons s rest ih =>
      intro bl h
      refine ih _ ?_
      unfold partB
      rw [List.pairwise_flatMap]
      refine ⟨fun b hb => ?_, h.imp fun {x y} hxy u hu v hv c hc => ?_⟩
      · refine List.Pairwise.filter _ ?_
        refine List.pairwise_cons.2 ⟨fun y hy c hc => ?_, List.pairwise_singleton _ _⟩
        rw [List.mem_singleton] at hy
        subst hy
        rw [BitVec.getLsbD_and, Bool.and_eq_true] at hc
        rw [BitVec.getLsbD_and, BitVec.getLsbD_not, hc.2]
        simp
      · have h1 : x.getLsbD c = true := by
          rcases cut_mem hu with rfl | rfl <;> · rw [BitVec.getLsbD_and, Bool.and_eq_true] at hc; exact hc.1
        have h2 := hxy c h1
        rcases cut_mem hv with rfl | rfl <;> rw [BitVec.getLsbD_and, h2, Bool.false_and]
  exact key sets _ (List.pairwise_singleton _ _)
theorem blocks_sep (sets : List (BitVec 256)) : ∀ x ∈ blocksM sets, ∀ c d, c < 256 → d < 256 → (∀ s ∈ sets, s.getLsbD c = s.getLsbD d) → x.getLsbD c = x.getLsbD d := by
  have key : ∀ (rest bl : List (BitVec 256)) (c d : Nat), c < 256 → d < 256 → (∀ x ∈ bl, x.getLsbD c = x.getLsbD d) → (∀ s ∈ rest, s.getLsbD c = s.getLsbD d) → ∀ x ∈ rest.foldl partB bl, x.getLsbD c = x.getLsbD d := by
    intro rest
    induction rest with
    | nil => exact fun bl c d _ _ h _ => h
    | cons s rest ih =>
      intro bl c d hc hd h hr
      refine ih _ c d hc hd (fun x hx => ?_) fun s' hs' => hr s' (List.mem_cons_of_mem _ hs')
      obtain ⟨b, hb, hx⟩ := List.mem_flatMap.1 hx
      have h1 := h b hb
      have h2 := hr s (List.mem_cons_self ..)
      rcases cut_mem hx with rfl | rfl
      · rw [BitVec.getLsbD_and, BitVec.getLsbD_and, h1, h2]
      · rw [BitVec.getLsbD_and, BitVec.getLsbD_and, BitVec.getLsbD_not, BitVec.getLsbD_not, h1, h2]
        simp [hc, hd]
  intro x hx c d hc hd hs
  refine key sets _ c d hc hd (fun x hx => ?_) hs x hx
  rw [List.mem_singleton] at hx
  subst hx
  rw [BitVec.getLsbD_allOnes, BitVec.getLsbD_allOnes]
  simp [hc, hd]
theorem one_of {l : List (BitVec 256)} {b : Nat} (h : l.Pairwise Apart_) (hne : ∀ x ∈ l, x.getLsbD b = true) (hx : l ≠ []) : ∃ x, l = [x] := by
  match l, hx with
  | [x], _ => exact ⟨x, rfl⟩
  | x :: y :: r, _ =>
    have h1 := (List.pairwise_cons.1 h).1 y (by simp) b (hne x (by simp))
    rw [hne y (by simp)] at h1
    cases h1
theorem repsM_filter (sets : List (BitVec 256)) : repsM sets = (List.range 256).filter (leastB sets) := by
  have hok := part_ok sets
  have hone : ∀ b, b < 256 → (atomsAt (blocksM sets) b).map (fun c => (nextM c 0).1) = if leastB sets b then [b] else [] := by
    intro b hb
    have hall : ∀ x ∈ atomsAt (blocksM sets) b, x ∈ blocksM sets ∧ (nextM x 0).1 = b ∧ x.getLsbD b = true := fun x hx => by
      obtain ⟨h1, h2⟩ := List.mem_filter.1 hx
      have h3 : (nextM x 0).1 = b := by simpa using h2
      have h4 := (least_of (hok.ne x h1)).1
      rw [h3] at h4
      exact ⟨h1, h3, h4⟩
    cases hl : leastB sets b with
    | false =>
      rw [if_neg (by decide)]
      have : atomsAt (blocksM sets) b = [] := by
        apply Classical.byContradiction
        intro hne
        obtain ⟨x, hx⟩ := List.exists_mem_of_ne_nil _ hne
        obtain ⟨h1, h2, h3⟩ := hall x hx
        have : ∃ h, h < b ∧ sigEq sets b h = true := by
          apply Classical.byContradiction
          intro hno
          have : leastB sets b = true := leastB_iff.2 fun h hh => by
            cases hs : sigEq sets b h with
            | false => rfl
            | true => exact absurd ⟨h, hh, hs⟩ hno
          rw [hl] at this; cases this
        obtain ⟨h, hh, hs⟩ := this
        have h4 := blocks_sep sets x h1 b h hb (by omega) (sigEq_iff.1 hs)
        rw [h3] at h4
        have h5 := (least_of (hok.ne x h1)).2 h (by rw [h2]; exact hh)
        rw [h5] at h4; cases h4
      rw [this]; rfl
    | true =>
      rw [if_pos rfl]
      obtain ⟨x, hx, hxb⟩ := hok.all b hb
      obtain ⟨l1, l2⟩ := least_of (hok.ne x hx)
      have hle : (nextM x 0).1 = b := by
        apply Classical.byContradiction
        intro hne
        have hlt : (nextM x 0).1 < b := by
          rcases Nat.lt_or_ge b (nextM x 0).1 with h | h
          · rw [l2 b h] at hxb; cases hxb
          · omega
        have hs := hok.same x hx b _ hxb l1
        have := leastB_iff.1 hl _ hlt
        rw [sigEq_iff.2 hs] at this; cases this
      have hmem : x ∈ atomsAt (blocksM sets) b := List.mem_filter.2 ⟨hx, by rw [hle]; simp⟩
      obtain ⟨y, hy⟩ := one_of (l := atomsAt (blocksM sets) b) (b := b) ((blocks_apart sets).filter _) (fun z hz => (hall z hz).2.2) (List.ne_nil_of_mem hmem)
      rw [hy]
      have := (hall y (by rw [hy]; simp)).2.1
      simp only [List.map_cons, List.map_nil, this]
  unfold repsM atomsM
  rw [List.map_flatMap]
  have key : ∀ l : List Nat, (∀ b ∈ l, b < 256) → (l.flatMap fun b => (atomsAt (blocksM sets) b).map fun c => (nextM c 0).1) = l.filter (leastB sets) := by
    intro l
    induction l with
    | nil => exact fun _ => rfl
    | cons b l ih =>
      intro h
      rw [List.flatMap_cons, hone b (h b (List.mem_cons_self ..)), ih fun x hx => h x (List.mem_cons_of_mem _ hx)]
      cases hl : leastB sets b with
      | true => rw [List.filter_cons_of_pos hl]; rfl
      | false => rw [List.filter_cons_of_neg (by rw [hl]; decide)]; rfl
  exact key _ fun b hb => List.mem_range.1 hb
end Go.Proofs.YtfbghcpdinlmcaaGreatDoor
/- Making automata deterministic: the plain law: the walk over all bytes, and over one byte of each atom, find the same sets. -/
set_option linter.unusedVariables false
set_option linter.unusedSimpArgs false
set_option maxRecDepth 100000
namespace Go.Proofs.YtfbghcpdinlmcaaGreatDoor
open Go.VC
attribute [local irreducible] mRun gRun atRun
section
variable {K : Type} [DecidableEq K] {most : Nat} {step : K → Nat → K} {start : K} {P : K → Prop} {x : K}
theorem rowF_fst (s : Option (List K × List Nat)) (b : Nat) : (rowF most step x s b).map Prod.fst = (s.map Prod.fst).bind fun f => (atF most f (step x b)).map Prod.fst := by
  cases s with
  | none => rfl
  | some p =>
    simp only [rowF, Option.bind_some, Option.map_some]
    cases atF most p.1 (step x b) <;> rfl
theorem atF_old {f : List K} {k : K} {i : Nat} (hn : f.Nodup) (h : f[i]? = some k) : atF most f k = some (f, i) := by
  unfold atF
  have : f.findIdx? (· = k) = some i := by
    rw [List.findIdx?_eq_some_iff_getElem]
    obtain ⟨hi, e⟩ := List.getElem?_eq_some_iff.1 h
    refine ⟨hi, by simpa using e, fun j hj => ?_⟩
    have := (List.pairwise_iff_getElem.1 hn) j i (by omega) hi hj
    rw [e] at this
    simpa using this
  rw [this]
theorem atF_mem2 {F F' : List K} {k : K} {i : Nat} (h : atF most F k = some (F', i)) : ∀ y ∈ F', y ∈ F ∨ y = k := by
  intro y hx
  unfold atF at h
  split at h
  · injection h with h; injection h with h1 h2; subst h1; exact .inl hx
  · split at h
    · injection h with h; injection h with h1 h2; subst h1
      rcases List.mem_append.1 hx with hx | hx
      · exact .inl hx
      · rw [List.mem_singleton] at hx; exact .inr hx
    · cases h
theorem row_P (hs : ∀ b, P (step x b)) : ∀ (l : List Nat) (f f' : List K) (r r' : List Nat), l.foldl (rowF most step x) (some (f, r)) = some (f', r') → (∀ y ∈ f, P y) → ∀ y ∈ f', P y
  | [], f, f', r, r', h, hf => by
    simp only [List.foldl_nil, Option.some.injEq, Prod.mk.injEq] at h
    obtain ⟨rfl, -⟩ := h
    exact hf
  | b :: l, f, f', r, r', h, hf => by
    rw [List.foldl_cons] at h
    simp only [rowF, Option.bind_some] at h
    cases ha : atF most f (step x b) with
    | none => rw [ha] at h; rw [Option.map_none, rowF_none] at h; cases h
    | some p =>
      rw [ha] at h
      refine row_P hs l p.1 f' _ r' h fun y hy => ?_
      rcases atF_mem2 (i := p.2) ha y hy with h1 | rfl
      · exact hf y h1
      · exact hs b
theorem row_pre : ∀ (l : List Nat) (f f' : List K) (r r' : List Nat), l.foldl (rowF most step x) (some (f, r)) = some (f', r') → f.length ≤ most → f.Nodup → f'.length ≤ most ∧ f'.Nodup ∧ f <+: f' ∧ ∃ r2, r' = r ++ r2
  | [], f, f', r, r', h, h1, h2 => by
    simp only [List.foldl_nil, Option.some.injEq, Prod.mk.injEq] at h
    obtain ⟨rfl, rfl⟩ := h
    exact ⟨h1, h2, List.prefix_refl _, [], by simp⟩
  | b :: l, f, f', r, r', h, h1, h2 => by
    rw [List.foldl_cons] at h
    simp only [rowF, Option.bind_some] at h
    cases ha : atF most f (step x b) with
    | none => rw [ha] at h; rw [Option.map_none, rowF_none] at h; cases h
    | some p =>
      rw [ha] at h
      obtain ⟨-, g1, g2, g3⟩ := atF_some (i := p.2) ha h1 h2
      obtain ⟨k1, k2, k3, r2, k4⟩ := row_pre l p.1 f' _ r' h g1 g2
      exact ⟨k1, k2, g3.trans k3, p.2 :: r2, by rw [k4]; simp⟩
/-- What holds of all that has been found. -/
theorem rows_inv (hm : 1 ≤ most) (h0 : P start) (hs : ∀ y b, P y → P (step y b)) (bs : List Nat) : ∀ (n : Nat) (f : List K) (rows : List (List Nat)), rowsF most step bs start n = some (f, rows) → f.length ≤ most ∧ f.Nodup ∧ f[0]? = some start ∧ ∀ y ∈ f, P y
  | 0, f, rows, h => by
    simp only [rowsF, Option.some.injEq, Prod.mk.injEq] at h
    obtain ⟨rfl, -⟩ := h
    exact ⟨hm, by simp, rfl, fun y hy => by rw [List.mem_singleton] at hy; subst hy; exact h0⟩
  | n + 1, f, rows, h => by
    simp only [rowsF] at h
    cases hp : rowsF most step bs start n with
    | none => rw [hp] at h; cases h
    | some p =>
      obtain ⟨g1, g2, g3, g4⟩ := rows_inv hm h0 hs bs n p.1 p.2 hp
      rw [hp] at h
      simp only [Option.bind_some] at h
      cases hx : p.1[n]? with
      | none =>
        rw [hx] at h
        simp only [Option.some.injEq] at h
        subst h
        exact ⟨g1, g2, g3, g4⟩
      | some x =>
        rw [hx] at h
        simp only at h
        cases hr : bs.foldl (rowF most step x) (some (p.1, [])) with
        | none => rw [hr] at h; cases h
        | some r =>
          rw [hr] at h
          simp only [Option.map_some, Option.some.injEq, Prod.mk.injEq] at h
          obtain ⟨rfl, -⟩ := h
          obtain ⟨k1, k2, k3, -⟩ := row_pre bs p.1 r.1 [] r.2 hr g1 g2
          exact ⟨k1, k2, pre_get k3 g3, row_P (fun b => hs x b (g4 x (List.mem_of_getElem? hx))) bs p.1 r.1 [] r.2 hr g4⟩
/-- Each byte that is left out leads as one ahead of it. -/
def CovP (P : K → Prop) (step : K → Nat → K) (p : Nat → Bool) : Prop := ∀ b, b < 256 → p b = false → ∃ g, g < b ∧ p g = true ∧ ∀ x, P x → step x g = step x b
theorem row_canon {p : Nat → Bool} (hc : CovP P step p) (hx : P x) {f : List K} (h1 : f.length ≤ most) (h2 : f.Nodup) : ∀ m, m ≤ 256 →
    ((List.range m).foldl (rowF most step x) (some (f, []))).map Prod.fst = (((List.range m).filter p).foldl (rowF most step x) (some (f, []))).map Prod.fst := by
  intro m
  induction m with
  | zero => intro _; rfl
  | succ m ih =>
    intro hm
    have ih := ih (by omega)
    rw [List.range_succ, List.filter_append, List.foldl_append, List.foldl_append, List.foldl_cons, List.foldl_nil, rowF_fst, ih]
    cases hp : p m with
    | true =>
      rw [List.filter_cons_of_pos hp, List.filter_nil, List.foldl_cons, List.foldl_nil, rowF_fst]
    | false =>
      rw [List.filter_cons_of_neg (by rw [hp]; decide), List.filter_nil, List.foldl_nil]
      cases hA : (List.range m).foldl (rowF most step x) (some (f, [])) with
      | none => rw [← ih, hA]; rfl
      | some q =>
        obtain ⟨f', r'⟩ := q
        obtain ⟨k1, k2, k3, k4, k5⟩ := foldRow_pre h1 h2 hA
        obtain ⟨g, hg, hpg, hs⟩ := hc m (by omega) hp
        rw [List.length_range] at k4
        obtain ⟨t, ht⟩ := get_some (l := r') (k := g) (by omega)
        have h5 := k5 g g t (List.getElem?_range hg) ht
        rw [hs x hx] at h5
        rw [← ih, hA]
        simp only [Option.map_some, Option.bind_some, atF_old k2 h5]
theorem rows_canon {p : Nat → Bool} (hc : CovP P step p) (hm : 1 ≤ most) (h0 : P start) (hs : ∀ y b, P y → P (step y b)) : ∀ n, (rowsF most step (List.range 256) start n).map Prod.fst = (rowsF most step ((List.range 256).filter p) start n).map Prod.fst
  | 0 => rfl
  | n + 1 => by
    have ih := rows_canon hc hm h0 hs n
    simp only [rowsF]
    cases hA : rowsF most step (List.range 256) start n with
    | none =>
      rw [hA] at ih
      cases hB : rowsF most step ((List.range 256).filter p) start n with
      | none => rfl
      | some q => rw [hB] at ih; cases ih
    | some q =>
      rw [hA] at ih
      cases hB : rowsF most step ((List.range 256).filter p) start n with
      | none => rw [hB] at ih; cases ih
      | some q' =>
        rw [hB] at ih
        simp only [Option.map_some, Option.some.injEq] at ih
        obtain ⟨f, rows⟩ := q
        obtain ⟨f', rows'⟩ := q'
        simp only at ih
        subst ih
        obtain ⟨g1, g2, g3, g4⟩ := rows_inv hm h0 hs _ n f rows hA
        simp only [Option.bind_some]
        cases hx : f[n]? with
        | none => rfl
        | some x =>
          have hr := row_canon hc (g4 x (List.mem_of_getElem? hx)) g1 g2 256 (Nat.le_refl _)
          cases hA2 : (List.range 256).foldl (rowF most step x) (some (f, [])) with
          | none =>
            rw [hA2] at hr
            cases hB2 : ((List.range 256).filter p).foldl (rowF most step x) (some (f, [])) with
            | none => simp only [hA2, hB2]; rfl
            | some r => rw [hB2] at hr; cases hr
          | some r =>
            rw [hA2] at hr
            cases hB2 : ((List.range 256).filter p).foldl (rowF most step x) (some (f, [])) with
            | none => rw [hB2] at hr; cases hr
            | some r' =>
              rw [hB2] at hr
              simp only [hA2, hB2]
              simpa using hr
/-- All sets, in the order in which a walk over all bytes finds them. -/
def detW (most : Nat) (step : K → Nat → K) (start : K) : Option (List K) := (detF most step (List.range 256) start).map Prod.fst
theorem detW_of {p : Nat → Bool} (hc : CovP P step p) (hm : 1 ≤ most) (h0 : P start) (hs : ∀ y b, P y → P (step y b)) : (detF most step ((List.range 256).filter p) start).map Prod.fst = detW most step start := (rows_canon hc hm h0 hs most).symm
/-- A prefix of the walk has found a prefix. -/
theorem rows_pre (hm : 1 ≤ most) {bs : List Nat} : ∀ (k n : Nat) (f : List K) (rows : List (List Nat)), rowsF most step bs start (n + k) = some (f, rows) → ∃ f1 rows1, rowsF most step bs start n = some (f1, rows1) ∧ f1 <+: f
  | 0, n, f, rows, h => ⟨f, rows, h, List.prefix_refl _⟩
  | k + 1, n, f, rows, h => by
    rw [← Nat.add_assoc] at h
    simp only [rowsF] at h
    cases hp : rowsF most step bs start (n + k) with
    | none => rw [hp] at h; cases h
    | some p =>
      obtain ⟨f1, rows1, e1, e2⟩ := rows_pre hm k n p.1 p.2 hp
      obtain ⟨g1, g2, -⟩ := rows_inv (P := fun _ => True) hm trivial (fun _ _ _ => trivial) bs (n + k) p.1 p.2 hp
      rw [hp] at h
      simp only [Option.bind_some] at h
      cases hx : p.1[n + k]? with
      | none =>
        rw [hx] at h
        simp only [Option.some.injEq] at h
        subst h
        exact ⟨f1, rows1, e1, e2⟩
      | some x =>
        rw [hx] at h
        simp only at h
        cases hr : bs.foldl (rowF most step x) (some (p.1, [])) with
        | none => rw [hr] at h; cases h
        | some r =>
          rw [hr] at h
          simp only [Option.map_some, Option.some.injEq, Prod.mk.injEq] at h
          obtain ⟨rfl, -⟩ := h
          exact ⟨f1, rows1, e1, e2.trans (row_pre bs p.1 r.1 [] r.2 hr g1 g2).2.2.1⟩
theorem detF_at (hm : 1 ≤ most) {bs : List Nat} {F : List K} {rows : List (List Nat)} (h : detF most step bs start = some (F, rows)) : rowsF most step bs start F.length = some (F, rows) := by
  obtain ⟨g1, -⟩ := rows_inv (P := fun _ => True) hm trivial (fun _ _ _ => trivial) bs most F rows h
  obtain ⟨f1, rows1, e1, e2⟩ := rows_pre hm (most - F.length) F.length F rows (by rw [show F.length + (most - F.length) = most by omega]; exact h)
  have e3 := rowsF_stop e1 e2.length_le most g1
  have e4 : rowsF most step bs start most = some (F, rows) := h
  rw [e4] at e3
  rw [e1]
  exact e3.symm
theorem detW_len (hm : 1 ≤ most) {F : List K} (h : detW most step start = some F) : 1 ≤ F.length ∧ F.length ≤ most ∧ F.Nodup ∧ F[0]? = some start := by
  unfold detW at h
  cases hd : detF most step (List.range 256) start with
  | none => rw [hd] at h; cases h
  | some p =>
    rw [hd] at h
    simp only [Option.map_some, Option.some.injEq] at h
    subst h
    obtain ⟨g1, g2, g3, -⟩ := rows_inv (P := fun _ => True) hm trivial (fun _ _ _ => trivial) (List.range 256) most p.1 p.2 hd
    exact ⟨(List.getElem?_eq_some_iff.1 g3).1, g1, g2, g3⟩
end
/-! ### atoms as a table's cells -/
theorem Apart_.sym {x y : BitVec 256} (h : Apart_ x y) : Apart_ y x := fun c hc => by
  cases hx : x.getLsbD c with
  | false => rfl
  | true => rw [h c hx] at hc; cases hc
theorem apart_ne {l : List (BitVec 256)} (h : l.Pairwise Apart_) {x y : BitVec 256} (hx : x ∈ l) (hy : y ∈ l) (hne : x ≠ y) : Apart_ x y := by
  obtain ⟨i, hi, rfl⟩ := List.getElem_of_mem hx
  obtain ⟨j, hj, rfl⟩ := List.getElem_of_mem hy
  rcases Nat.lt_trichotomy i j with hlt | rfl | hlt
  · exact List.pairwise_iff_getElem.1 h i j hi hj hlt
  · exact absurd rfl hne
  · exact (List.pairwise_iff_getElem.1 h j i hj hi hlt).sym
theorem atoms_mem {sets : List (BitVec 256)} {x : BitVec 256} : x ∈ atomsM sets ↔ x ∈ blocksM sets := by
  unfold atomsM
  rw [List.mem_flatMap]
  constructor
  · rintro ⟨b, -, hx⟩
    exact (List.mem_filter.1 hx).1
  · exact fun h => ⟨(nextM x 0).1, List.mem_range.2 (nextM_lt x 0), List.mem_filter.2 ⟨h, by simp⟩⟩
theorem atoms_apart (sets : List (BitVec 256)) : (atomsM sets).Pairwise Apart_ := by
  have hb := blocks_apart sets
  unfold atomsM
  rw [List.pairwise_flatMap]
  refine ⟨fun b _ => hb.filter _, List.pairwise_lt_range.imp fun {b c} hbc x hx y hy => ?_⟩
  obtain ⟨h1, h2⟩ := List.mem_filter.1 hx
  obtain ⟨h3, h4⟩ := List.mem_filter.1 hy
  refine apart_ne hb h1 h3 fun e => ?_
  subst e
  have e1 : (nextM x 0).1 = b := by simpa using h2
  have e2 : (nextM x 0).1 = c := by simpa using h4
  omega
theorem atoms_cnt (sets : List (BitVec 256)) {b : Nat} (hb : b < 256) : cnt (atomsM sets) b = 1 := by
  unfold cnt
  obtain ⟨x, hx, hxb⟩ := (part_ok sets).all b hb
  obtain ⟨y, hy⟩ := one_of (l := (atomsM sets).filter fun x => x.getLsbD b) (b := b) ((atoms_apart sets).filter _) (fun z hz => (List.mem_filter.1 hz).2) (List.ne_nil_of_mem (List.mem_filter.2 ⟨atoms_mem.2 hx, hxb⟩))
  rw [hy]
  rfl
/-! ### both sides -/
def HasL (a : NfM) (l : List Int) : Prop := ∀ q ∈ l, a.has q = true
/-- The sets hold all that ways take. -/
def Takes (a : NfM) (sets : List (BitVec 256)) : Prop := ∀ e ∈ a.edges, e.sil = false → okE a e = true → e.set ∈ sets
theorem takes_A (a : NfM) : Takes a (setsA a) := fun e he hs hk => by
  unfold okE at hk
  rw [Bool.and_eq_true] at hk
  obtain ⟨row, h1, -, h3⟩ := takT_row hk.1
  exact List.mem_flatMap.2 ⟨row, List.mem_of_getElem? h1, List.mem_map.2 ⟨e, (h3 e).2 ⟨he, hs, rfl, hk.2⟩, rfl⟩⟩
theorem step_sep {a : NfM} {sets : List (BitVec 256)} (ht : Takes a sets) {g b : Nat} (hs : sigEq sets g b = true) {l : List Int} (hl : HasL a l) : stepA a l g = stepA a l b := by
  have key : ∀ g b : Nat, sigEq sets g b = true → ∀ q, hopS a (· ∈ l) g q → hopS a (· ∈ l) b q := fun g b hs q ⟨e, h1, h2, h3, h4, h5, h6⟩ =>
    ⟨e, h1, h2, by rw [← sigEq_iff.1 hs e.set (ht e h1 h2 (by unfold okE; rw [hl _ h4, h5]; rfl))]; exact h3, h4, h5, h6⟩
  have hs' : sigEq sets b g = true := sigEq_iff.2 fun c hc => (sigEq_iff.1 hs c hc).symm
  unfold stepA goS
  have e : hopS a (· ∈ l) g = hopS a (· ∈ l) b := funext fun q => propext ⟨key g b hs q, key b g hs' q⟩
  rw [e]
theorem covP_of {a : NfM} {sets : List (BitVec 256)} (ht : Takes a sets) : CovP (HasL a) (stepA a) (leastB sets) := fun b hb hp => by
  obtain ⟨g, g1, g2, g3⟩ := exists_least (cells := sets) (b := b) b (sigEq_refl sets b)
  have hne : g ≠ b := fun e => by rw [e, hp] at g3; cases g3
  exact ⟨g, by omega, g3, fun x hx => step_sep ht (sigEq_iff.2 fun c hc => (sigEq_iff.1 g2 c hc).symm) hx⟩
noncomputable abbrev begL (a : NfM) : List Int := lstS (begS a)
theorem begL_has (a : NfM) : HasL a (begL a) := fun q hq => begS_has a q ((lstS_mem (has_rng (begS_has a)) q).1 hq)
theorem stepL_has {a : NfM} (l : List Int) (b : Nat) (_ : HasL a l) : HasL a (stepA a l b) := stepA_rng
noncomputable def detN (a : NfM) (most : Nat) : Option (List (List Int)) := detW most (stepA a) (begL a)
theorem detA (a : NfM) {most : Nat} (hm : 1 ≤ most) : (detF most (stepA a) (repsM (setsA a)) (begL a)).map Prod.fst = detN a most := by
  rw [repsM_filter]
  exact detW_of (covP_of (takes_A a)) hm (begL_has a) stepL_has
/-- Steps lead from set to set. -/
structure Leads5 (a : NfM) (F : List (List Int)) (st : Int → Nat → Int) (fi : Int → Bool) : Prop where
  st : ∀ (q b : Nat) (x : List Int), F[q]? = some x → b < 256 → ∃ t : Nat, st (q : Int) b = (t : Int) ∧ F[t]? = some (stepA a x b)
  fi : ∀ (q : Nat) (x : List Int), F[q]? = some x → fi (q : Int) = decide (a.fin ∈ x)
theorem det_rowsOk {a : NfM} {most : Nat} {bs : List Nat} {F : List (List Int)} {rows : List (List Nat)} (hm : 1 ≤ most) (h : detF most (stepA a) bs (begL a) = some (F, rows)) : RowsOk most (stepA a) bs (begL a) F.length F rows ∧ ∀ x ∈ F, HasL a x := by
  obtain ⟨-, -, -, g4⟩ := rows_inv (P := HasL a) hm (begL_has a) stepL_has bs most F rows h
  exact ⟨rowsF_ok hm F.length F rows (detF_at hm h) fun j hj => hj, g4⟩
theorem row_lt {a : NfM} {most : Nat} {bs : List Nat} {F : List (List Int)} {rows : List (List Nat)} (hk : RowsOk most (stepA a) bs (begL a) F.length F rows) {q : Nat} {row : List Nat} (hr : rows[q]? = some row) : row.length = bs.length ∧ ∀ t ∈ row, t < F.length := by
  have hcl := hk.cols row (List.mem_of_getElem? hr)
  refine ⟨hcl, fun t ht => ?_⟩
  obtain ⟨k, hkt⟩ := List.getElem?_of_mem ht
  have hkl := (List.getElem?_eq_some_iff.1 hkt).1
  obtain ⟨b, hb⟩ := get_some (l := bs) (k := k) (by omega)
  have hql := (List.getElem?_eq_some_iff.1 hr).1
  rw [hk.rl] at hql
  obtain ⟨x, hx⟩ := get_some (l := F) (k := q) hql
  exact (List.getElem?_eq_some_iff.1 (hk.ok q k row b t x hr hb hkt hx)).1
/-- The program's automaton. -/
theorem autoA {a : NfM} {most : Nat} {F : List (List Int)} {rows : List (List Nat)} (hm : 1 ≤ most) (hm2 : most ≤ 65536) (h : detF most (stepA a) (repsM (setsA a)) (begL a) = some (F, rows)) :
    soundB (atomsM (setsA a)) (rows.map rowI) F.length = true ∧ Leads5 a F (stepM (some (madeM (atomsM (setsA a)) (rows.map rowI) (F.map fun l => decide (a.fin ∈ l))))) (finM (some (madeM (atomsM (setsA a)) (rows.map rowI) (F.map fun l => decide (a.fin ∈ l))))) ∧ stN (some (madeM (atomsM (setsA a)) (rows.map rowI) (F.map fun l => decide (a.fin ∈ l)))) = F.length := by
  obtain ⟨hk, hP⟩ := det_rowsOk hm h
  have h0 := (List.getElem?_eq_some_iff.1 hk.zero).1
  have hlen := hk.len
  have hrl : (rows.map rowI).length = F.length := by rw [List.length_map, hk.rl]
  have hbl : (repsM (setsA a)).length = (atomsM (setsA a)).length := List.length_map _
  have hs : soundB (atomsM (setsA a)) (rows.map rowI) F.length = true := by
    rw [soundB_iff]
    refine ⟨⟨by omega, by omega, hrl⟩, fun b hb => atoms_cnt _ hb, fun r hr => ?_⟩
    obtain ⟨row, hrow, rfl⟩ := List.mem_map.1 hr
    obtain ⟨q, hq⟩ := List.getElem?_of_mem hrow
    obtain ⟨h1, h2⟩ := row_lt hk hq
    unfold rowOk
    rw [Bool.and_eq_true, beq_iff_eq, List.all_eq_true]
    refine ⟨by unfold rowI; rw [List.length_map, h1, hbl], fun t ht => ?_⟩
    obtain ⟨u, hu, rfl⟩ := List.mem_map.1 ht
    have := h2 u hu
    simp only [Bool.and_eq_true, decide_eq_true_eq]
    omega
  have hfl : (F.map fun l => decide (a.fin ∈ l)).length = F.length := List.length_map _
  refine ⟨hs, ⟨fun q b x hx hb => ?_, fun q x hx => ?_⟩, by simp only [stN, madeM, List.length_map]; exact hk.rl⟩
  · obtain ⟨row, hrow⟩ := get_some (l := rows) (k := q) (by rw [hk.rl]; exact (List.getElem?_eq_some_iff.1 hx).1)
    obtain ⟨h1, h2⟩ := row_lt hk hrow
    obtain ⟨c1, c2⟩ := soundB_cells hs hb
    obtain ⟨c, hc⟩ := get_some c1
    have hcb := c2 c hc
    obtain ⟨t, ht⟩ := get_some (l := row) (k := cellOf (atomsM (setsA a)) b) (by omega)
    have hbs : (repsM (setsA a))[cellOf (atomsM (setsA a)) b]? = some (nextM c 0).1 := by unfold repsM; rw [List.getElem?_map, hc]; rfl
    have hok := hk.ok q _ row _ t x hrow hbs ht hx
    have hcm := atoms_mem.1 (List.mem_of_getElem? hc)
    have hp := part_ok (setsA a)
    have hsg : sigEq (setsA a) (nextM c 0).1 b = true := sigEq_iff.2 fun s hs => hp.same c hcm _ _ (least_of (hp.ne c hcm)).1 hcb s hs
    refine ⟨t, ?_, by rw [hok, step_sep (takes_A a) hsg (hP x (List.mem_of_getElem? hx))]⟩
    rw [madeM_step (row := rowI row) (by rw [hfl]; exact hs) (by rw [List.getElem?_map, hrow]; rfl) hb]
    unfold rowI
    rw [List.getD_eq_getElem?_getD, List.getElem?_map, ht]
    rfl
  · simp [finM, madeM, hx]
end Go.Proofs.YtfbghcpdinlmcaaGreatDoor
/- Least automata: the plain law: rounds of telling apart; classes in the order in which they're found. -/
set_option linter.unusedVariables false
set_option linter.unusedSimpArgs false
set_option maxRecDepth 100000
namespace Go.Proofs.YtfbghcpdinlmcaaGreatDoor
open Go.VC
/-! ### lists without doubles -/
theorem snocInd {α : Type} {P : List α → Prop} (h0 : P []) (hs : ∀ (l : List α) (x : α), P l → P (l ++ [x])) (l : List α) : P l := by
  have key : ∀ m : List α, P m.reverse := fun m => by
    induction m with
    | nil => exact h0
    | cons x m ih => rw [List.reverse_cons]; exact hs _ x ih
  have := key l.reverse
  rwa [List.reverse_reverse] at this
section
variable {K : Type} [DecidableEq K]
def dd (l : List K) : List K := l.foldl (fun f k => if k ∈ f then f else f ++ [k]) []
end
/-! ### rounds -/
/-- An automaton, plain. -/
structure PA where
  n : Nat
  st : Nat → Nat → Nat
  fi : Nat → Bool
structure PA.Ok (M : PA) : Prop where
  pos : 0 < M.n
  cl : ∀ q b, q < M.n → b < 256 → M.st q b < M.n
def PA.run (M : PA) (q : Nat) (w : List Nat) : Nat := w.foldl M.st q
def bytes5 (w : List Nat) : Prop := ∀ b ∈ w, b < 256
/-- No word tells them apart. -/
def PA.Eqv (M : PA) (p q : Nat) : Prop := ∀ w, bytes5 w → M.fi (M.run p w) = M.fi (M.run q w)
/-- Some bytes that stand for all. -/
structure Reps (M : PA) (by_ : List Nat) : Prop where
  lt : ∀ b ∈ by_, b < 256
  cov : ∀ b, b < 256 → ∃ g ∈ by_, g ≤ b ∧ ∀ q, q < M.n → M.st q g = M.st q b
/-- A list of states that steps don't leave. -/
structure Closed (M : PA) (l : List Nat) : Prop where
  lt : ∀ q ∈ l, q < M.n
  st : ∀ q ∈ l, ∀ b, b < 256 → M.st q b ∈ l
section
variable {M : PA} {by_ l : List Nat} {P : Nat → Nat}
def keyR (M : PA) (by_ : List Nat) (P : Nat → Nat) (q : Nat) : List Nat := P q :: by_.map fun b => P (M.st q b)
def found (M : PA) (by_ l : List Nat) (P : Nat → Nat) : List (List Nat) := dd (l.map (keyR M by_ P))
/-- How many classes there are. -/
def cls (l : List Nat) (P : Nat → Nat) : Nat := (dd (l.map P)).length
theorem sub_len {K : Type} [DecidableEq K] {a b : List K} (ha : a.Nodup) (h : ∀ x ∈ a, x ∈ b) : a.length ≤ b.length := by
  induction a generalizing b with
  | nil => exact Nat.zero_le _
  | cons x a ih =>
    obtain ⟨h1, h2⟩ := List.nodup_cons.1 ha
    have hx := h x (by simp)
    have := ih (b := b.erase x) h2 fun y hy => (List.mem_erase_of_ne (fun e => h1 (by rw [← e]; exact hy))).2 (h y (List.mem_cons_of_mem _ hy))
    rw [List.length_erase_of_mem hx] at this
    have := List.length_pos_of_mem hx
    simp only [List.length_cons]; omega
/-- What holds all along. -/
structure RndI (M : PA) (l : List Nat) (P : Nat → Nat) : Prop where
  eqv : ∀ p ∈ l, ∀ q ∈ l, M.Eqv p q → P p = P q
  fi : ∀ p ∈ l, ∀ q ∈ l, P p = P q → M.fi p = M.fi q
/-- The classes are those that no word tells apart. -/
def IsCls (M : PA) (l : List Nat) (P : Nat → Nat) : Prop := ∀ p ∈ l, ∀ q ∈ l, P p = P q ↔ M.Eqv p q
end
end Go.Proofs.YtfbghcpdinlmcaaGreatDoor
/- Least automata: the plain law: classes stand in the order in which their states are found. -/
set_option linter.unusedVariables false
set_option linter.unusedSimpArgs false
set_option maxRecDepth 100000
namespace Go.Proofs.YtfbghcpdinlmcaaGreatDoor
open Go.VC
theorem nodup_lt {f : List Nat} {n : Nat} (hn : f.Nodup) (h : ∀ q ∈ f, q < n) : f.length ≤ n := by
  have := sub_len (b := List.range n) hn fun q hq => List.mem_range.2 (h q hq)
  rwa [List.length_range] at this
section
variable {M : PA} {P : Nat → Nat} {most : Nat}
/-- Steps of classes. -/
def cst (M : PA) (P : Nat → Nat) (k b : Nat) : Nat := match (List.range M.n).find? (fun q => P q = k) with
  | some q => P (M.st q b)
  | none => 0
abbrev allS (M : PA) : List Nat := List.range M.n
end
end Go.Proofs.YtfbghcpdinlmcaaGreatDoor
/- minim.reps, minim.blocks: the walks. -/
set_option linter.unusedVariables false
set_option linter.unusedSimpArgs false
set_option maxRecDepth 100000
namespace Go.VC
end Go.VC
namespace Go.Proofs.YtfbghcpdinlmcaaGreatDoor
open Go.VC
attribute [local irreducible] mRun gRun atRun
/-! ### reps -/
/-! ### names of keys -/
end Go.Proofs.YtfbghcpdinlmcaaGreatDoor
/- minim.blocks: the walk. -/
set_option linter.unusedVariables false
set_option linter.unusedSimpArgs false
set_option maxRecDepth 100000
namespace Go.Proofs.YtfbghcpdinlmcaaGreatDoor
open Go.VC
attribute [local irreducible] mRun gRun atRun
/-- The program's automaton, plain. -/
def paO (o : Option AM) : PA := ⟨stN o, fun q b => (stepM o (q : Int) b).toNat, fun q => finM o (q : Int)⟩
theorem paO_ok {o : Option AM} (h : StepOk o) : (paO o).Ok := ⟨h.n1, fun q b hq hb => by
  have := h.step (q : Int) b ⟨by omega, by have : q < stN o := hq; omega⟩ hb
  have h1 := this.1
  have h2 := this.2
  show (stepM o (q : Int) b).toNat < stN o
  omega⟩
theorem paO_st {o : Option AM} (h : StepOk o) {q b : Nat} (hq : q < stN o) (hb : b < 256) : stepM o (q : Int) b = ((paO o).st q b : Int) := by
  have := h.step (q : Int) b ⟨by omega, by omega⟩ hb
  have h1 := this.1
  show stepM o (q : Int) b = ((stepM o (q : Int) b).toNat : Int)
  omega
structure BlkI (M : PA) (P : Nat → Nat) (cnt : Nat) : Prop where
  rnd : RndI M (allS M) P
  lt : ∀ q, q < M.n → P q < 65536
  cnt : cls (allS M) P = cnt ∨ ∀ p ∈ allS M, ∀ q ∈ allS M, P p = P q
end Go.Proofs.YtfbghcpdinlmcaaGreatDoor
/- minim.Canon: the walk. -/
set_option linter.unusedVariables false
set_option linter.unusedSimpArgs false
set_option maxRecDepth 100000
namespace Go.Proofs.YtfbghcpdinlmcaaGreatDoor
open Go.VC
attribute [local irreducible] mRun gRun atRun
theorem filter_one5 {α : Type} {p : α → Bool} : ∀ (l : List α) (k : Nat) (x : α), l[k]? = some x → p x = true → (∀ (k' : Nat) (y : α), l[k']? = some y → p y = true → k' = k) → (l.filter p).length = 1
  | [], k, x, h, _, _ => by simp at h
  | a :: l, 0, x, h, hp, hu => by
    simp only [List.getElem?_cons_zero, Option.some.injEq] at h
    subst h
    have : l.filter p = [] := by
      rw [List.filter_eq_nil_iff]
      intro y hy hpy
      obtain ⟨j, hj⟩ := List.getElem?_of_mem hy
      have := hu (j + 1) y (by rw [List.getElem?_cons_succ]; exact hj) hpy
      omega
    rw [List.filter_cons_of_pos hp, this]; rfl
  | a :: l, k + 1, x, h, hp, hu => by
    rw [List.getElem?_cons_succ] at h
    have ha : p a = false := by
      cases hpa : p a with
      | false => rfl
      | true => have := hu 0 a rfl hpa; omega
    rw [List.filter_cons_of_neg (by rw [ha]; decide)]
    exact filter_one5 l k x h hp fun k' y hy hpy => by
      have := hu (k' + 1) y (by rw [List.getElem?_cons_succ]; exact hy) hpy
      omega
theorem cellsOk_cnt {o : Option AM} {ls : List Nat} (h : CellsOk o ls) {b : Nat} (hb : b < 256) : cnt (cellsM o) b = 1 := by
  obtain ⟨k, c, h1, h2, h3⟩ := h.part b hb
  exact filter_one5 _ k c h1 h2 h3
/-- States one for each class, in the order in which the classes are found; an automaton whose states they are. -/
structure LeadsC (M : PA) (O : List Nat) (st : Int → Nat → Int) (fi : Int → Bool) : Prop where
  lt : ∀ x ∈ O, x < M.n
  st : ∀ (i b x : Nat), O[i]? = some x → b < 256 → ∃ t y : Nat, st (i : Int) b = (t : Int) ∧ O[t]? = some y ∧ M.Eqv y (M.st x b)
  fi : ∀ (i x : Nat), O[i]? = some x → fi (i : Int) = M.fi x
def InOrder (M : PA) (O : List Nat) : Prop := ∃ P, IsCls M (allS M) P ∧ detW 65537 (cst M P) (P 0) = some (O.map P)
def intsN (O : List Nat) : List Int := O.map fun (x : Nat) => (x : Int)
end Go.Proofs.YtfbghcpdinlmcaaGreatDoor
/- louperef07.reached: the walk. -/
set_option linter.unusedVariables false
set_option linter.unusedSimpArgs false
set_option maxRecDepth 100000
namespace Go.Proofs.YtfbghcpdinlmcaaGreatDoor
open Go.VC
attribute [local irreducible] mRun gRun atRun
/-- The document's automaton says what M says. -/
structure DocM (D : DM) (M : PA) : Prop where
  n : M.n = D.next.length
  st : ∀ q b, q < M.n → b < 256 → stepD D (q : Int) b = (M.st q b : Int)
  fi : ∀ q, q < M.n → finD D (q : Int) = M.fi q
/-- Its columns have bytes that stand for them. -/
structure RepD (D : DM) (by_ : List Nat) : Prop where
  reps : D.reps = intsN by_
  rl : ∀ row ∈ D.next, row.length = by_.length
  le : by_.length ≤ 256
  lt : ∀ b ∈ by_, b < 256
  at_ : ∀ (c b : Nat), by_[c]? = some b → D.cell[b]? = some (c : Int)
  cov : ∀ b, b < 256 → ∃ c g : Nat, D.cell[b]? = some (c : Int) ∧ by_[c]? = some g ∧ g ≤ b
end Go.Proofs.YtfbghcpdinlmcaaGreatDoor
/- louperef07.parts: the walk. -/
set_option linter.unusedVariables false
set_option linter.unusedSimpArgs false
set_option maxRecDepth 100000
namespace Go.Proofs.YtfbghcpdinlmcaaGreatDoor
open Go.VC
attribute [local irreducible] mRun gRun atRun
end Go.Proofs.YtfbghcpdinlmcaaGreatDoor
/- louperef07.Canon: the walk. -/
set_option linter.unusedVariables false
set_option linter.unusedSimpArgs false
set_option maxRecDepth 100000
namespace Go.VC
end Go.VC
namespace Go.Proofs.YtfbghcpdinlmcaaGreatDoor
open Go.VC
attribute [local irreducible] mRun gRun atRun
end Go.Proofs.YtfbghcpdinlmcaaGreatDoor
/- Two automata whose states are the classes in the order in which they are found are alike; plain law. -/
set_option linter.unusedVariables false
set_option linter.unusedSimpArgs false
namespace Go.Proofs.YtfbghcpdinlmcaaGreatDoor
end Go.Proofs.YtfbghcpdinlmcaaGreatDoor
/- same of the laws of layer 7: the walk (loupelaw05's, with a question for nil ahead). -/
set_option linter.unusedVariables false
set_option linter.unusedSimpArgs false
set_option maxRecDepth 100000
namespace Go.Proofs.YtfbghcpdinlmcaaGreatDoor
open Go.VC
attribute [local irreducible] mRun atRun
end Go.Proofs.YtfbghcpdinlmcaaGreatDoor
/- MinimCanons: same holds of the two canonical automata. -/
set_option linter.unusedVariables false
set_option linter.unusedSimpArgs false
set_option maxRecDepth 100000
namespace Go.Proofs.YtfbghcpdinlmcaaGreatDoor
open Go.VC
attribute [local irreducible] mRun gRun atRun
end Go.Proofs.YtfbghcpdinlmcaaGreatDoor
/- The document's automaton against the program's: DocM. -/
set_option linter.unusedVariables false
set_option linter.unusedSimpArgs false
set_option maxRecDepth 100000
namespace Go.Proofs.YtfbghcpdinlmcaaGreatDoor
open Go.VC
attribute [local irreducible] mRun gRun atRun
theorem Both.stepOk {o : Option AM} {D : DM} (h : Both o D) : StepOk o :=
  ⟨by rw [h.n]; exact h.ok.n1, by rw [h.n]; exact h.ok.n2, fun q b hq hb => by
    have := stepD_range h.ok hq.1 (by have := hq.2; rw [h.n] at this; exact this) hb
    unfold inA
    rw [h.step q b hb, h.n]
    exact this⟩
end Go.Proofs.YtfbghcpdinlmcaaGreatDoor
/- strconv.Itoa, strings.IndexByte, (*strings.Builder).String: the kit's shelf, laid by its tool. -/
set_option linter.unusedVariables false
set_option linter.unusedSimpArgs false
set_option maxRecDepth 100000
namespace Go.Proofs.YtfbghcpdinlmcaaGreatDoor
open Go.Shelf Go.Proofs Go.VC
end Go.Proofs.YtfbghcpdinlmcaaGreatDoor
/- strings.Builder: copyCheck, by the kit's own steps (its shelf's contract is for another text of copyCheck). -/
set_option linter.unusedVariables false
set_option linter.unusedSimpArgs false
set_option maxRecDepth 100000
namespace Go.Proofs.YtfbghcpdinlmcaaGreatDoor
open Go.Shelf Go.RowKit Go.Proofs
end Go.Proofs.YtfbghcpdinlmcaaGreatDoor
/- strings.Builder: a builder of the call's own: its writing methods and String. -/
set_option linter.unusedVariables false
set_option linter.unusedSimpArgs false
set_option maxRecDepth 100000
namespace Go.VC
end Go.VC
namespace Go.Proofs.YtfbghcpdinlmcaaGreatDoor
open Go.VC
section
variable {B : Nat → Prop} {H0 H H1 : Heap} {b : Nat} {s t : ByteArray} {rest : List Pc} {K : Value → Heap → Prop}
end
end Go.Proofs.YtfbghcpdinlmcaaGreatDoor
/- strings.Builder's String, strconv.Itoa, strings.IndexByte as calls. -/
set_option linter.unusedVariables false
set_option linter.unusedSimpArgs false
set_option maxRecDepth 100000
namespace Go.Proofs.YtfbghcpdinlmcaaGreatDoor
open Go.VC Go.Lib
end Go.Proofs.YtfbghcpdinlmcaaGreatDoor
/- class.single: the walk; how a byte is written. -/
set_option linter.unusedVariables false
set_option linter.unusedSimpArgs false
set_option maxRecDepth 100000
namespace Go.Proofs.YtfbghcpdinlmcaaGreatDoor
open Go.VC Go.Lib
end Go.Proofs.YtfbghcpdinlmcaaGreatDoor
/- louperef01.in, Special, Inner, One: the walks. -/
set_option linter.unusedVariables false
set_option linter.unusedSimpArgs false
set_option maxRecDepth 100000
namespace Go.Proofs.YtfbghcpdinlmcaaGreatDoor
open Go.VC Go.Lib
end Go.Proofs.YtfbghcpdinlmcaaGreatDoor
/- How a set is written: plain. -/
set_option linter.unusedVariables false
set_option linter.unusedSimpArgs false
set_option maxRecDepth 100000
namespace Go.Proofs.YtfbghcpdinlmcaaGreatDoor
open Go.VC Go.Lib
end Go.Proofs.YtfbghcpdinlmcaaGreatDoor
/- class.Show: the walk (printed by mkshw4.py). -/
set_option linter.unusedVariables false
set_option linter.unusedSimpArgs false
set_option maxRecDepth 100000
namespace Go.Proofs.YtfbghcpdinlmcaaGreatDoor
open Go.VC Go.Lib
end Go.Proofs.YtfbghcpdinlmcaaGreatDoor
/- louperef01.Count: the walk. -/
set_option linter.unusedVariables false
set_option linter.unusedSimpArgs false
set_option maxRecDepth 100000
namespace Go.Proofs.YtfbghcpdinlmcaaGreatDoor
open Go.VC Go.Lib
end Go.Proofs.YtfbghcpdinlmcaaGreatDoor
/- louperef01.Show: the walk (printed by mkshw6.py). -/
set_option linter.unusedVariables false
set_option linter.unusedSimpArgs false
set_option maxRecDepth 100000
namespace Go.Proofs.YtfbghcpdinlmcaaGreatDoor
open Go.VC Go.Lib
theorem neqZ {P : Program} {t : TypeId} {x y : Operand} {S : Nat → Prop} {H : Heap} {K : Value → Prop} {a b z : Bool} (h : P.underlying t = some .bool) (hz : (a != b) = z) (k : K (.bool z)) : VDet P (do eqGuard .neq t x y (.bool a) (.bool b); binOp .neq t (.bool a) (.bool b)) S H K := by
  subst hz
  exact bneq_b h k
theorem eqZ {P : Program} {t : TypeId} {x y : Operand} {S : Nat → Prop} {H : Heap} {K : Value → Prop} {a b z : Bool} (h : P.underlying t = some .bool) (hz : (a == b) = z) (k : K (.bool z)) : VDet P (do eqGuard .eql t x y (.bool a) (.bool b); binOp .eql t (.bool a) (.bool b)) S H K := by
  subst hz
  exact beq_b h k
end Go.Proofs.YtfbghcpdinlmcaaGreatDoor
/- louperef07.Number: the walk; numbers as text. -/
set_option linter.unusedVariables false
set_option linter.unusedSimpArgs false
set_option maxRecDepth 100000
namespace Go.Proofs.YtfbghcpdinlmcaaGreatDoor
open Go.VC Go.Lib
end Go.Proofs.YtfbghcpdinlmcaaGreatDoor
/- The table of an automaton as text: plain. -/
set_option linter.unusedVariables false
set_option linter.unusedSimpArgs false
set_option maxRecDepth 100000
namespace Go.Proofs.YtfbghcpdinlmcaaGreatDoor
open Go.VC Go.Lib
end Go.Proofs.YtfbghcpdinlmcaaGreatDoor
/- A table's text is read in just one way: plain. -/
set_option linter.unusedVariables false
set_option linter.unusedSimpArgs false
set_option maxRecDepth 100000
namespace Go.Proofs.YtfbghcpdinlmcaaGreatDoor
open Go.VC Go.Lib
/-! ### one byte's text is read in one way -/
/-! ### the inside of a set -/
/-! ### a set -/
/-! ### numbers -/
/-! ### lines -/
end Go.Proofs.YtfbghcpdinlmcaaGreatDoor
/- Search by breadth in a graph, bytes in ascending order: the first end that is found has the first word; plain law. -/
set_option linter.unusedVariables false
set_option linter.unusedSimpArgs false
namespace Go.Proofs.YtfbghcpdinlmcaaGreatDoor
/-- Shorter, or as long and no later in order. -/
def leL (u v : List Nat) : Prop := u.length < v.length ∨ (u.length = v.length ∧ lexL u v)
/-- i have been looked at whole; of the next one what holds of d. -/
structure BfsOk (g : Gr) (by_ : List Nat) (a : Nd) (F : List NW) (i : Nat) (k : Nat) : Prop where
  zero : F[0]? = some (a, [])
  nd : (F.map (·.1)).Nodup
  ok : ∀ x ∈ F, (∀ b ∈ x.2, b ∈ by_) ∧ To g x.2 a x.1
  up : ∀ (j l : Nat) (x y : NW), j < l → F[j]? = some x → F[l]? = some y → leL x.2 y.2 ∧ x.2 ≠ y.2
  closed : ∀ (j l : Nat) (x : NW) (b : Nat) (t : Nd), F[j]? = some x → by_[l]? = some b → t ∈ g.next x.1 b → (j < i ∨ (j = i ∧ l < k)) → ∃ y ∈ F, y.1 = t ∧ leL y.2 (x.2 ++ [b])
  par : ∀ (m : Nat) (y : NW), F[m]? = some y → m = 0 ∨ ∃ (j l b : Nat) (x : NW), F[j]? = some x ∧ by_[l]? = some b ∧ y.2 = x.2 ++ [b] ∧ (j < i ∨ (j = i ∧ l < k))
section
variable {g : Gr} {by_ : List Nat} {a t : Nd} {F F' : List NW} {i k : Nat}
variable (hby : ∀ c, c < 256 → ∃ r ∈ by_, r ≤ c ∧ ∀ n, g.next n r = g.next n c)
include hby
end
end Go.Proofs.YtfbghcpdinlmcaaGreatDoor
/- minim.spell: the walk. -/
set_option linter.unusedVariables false
set_option linter.unusedSimpArgs false
set_option maxRecDepth 100000
namespace Go.Proofs.YtfbghcpdinlmcaaGreatDoor
open Go.VC
attribute [local irreducible] mRun gRun atRun
/-! ### pairs and ways -/
def pkL (z : Int × Int) : List Value := [.int .i64 z.1, .int .i64 z.2]
def pkV (z : Int × Int) : Value := .agg (pkL z).toArray
def PkOk (z : Int × Int) : Prop := inK .i64 z.1 ∧ inK .i64 z.2
theorem pkV_inj {a b : Int × Int} (h : pkV a = pkV b) : a = b := by
  obtain ⟨x, y⟩ := a
  obtain ⟨x', y'⟩ := b
  simp only [pkV, pkL, Value.agg.injEq, Array.mk.injEq, List.cons.injEq, Value.int.injEq, true_and, and_true] at h
  obtain ⟨h1, h2⟩ := h
  rw [h1, h2]
theorem pk_wf {x : Int} (h : inK .i64 x) : (Lit.int .i64 x).wf = true := by
  unfold Lit.wf
  simp only [Bool.and_eq_true, decide_eq_true_eq]
  exact h
structure Links (F : List NW) (W : List (Int × Nat)) : Prop where
  len : W.length = F.length
  nd : (F.map fun x => (x.1.x, x.1.y)).Nodup
  s0 : ∀ x ∈ F, x.1.s = 0
  zero : W[0]? = some (-1, 0)
  link : ∀ (i : Nat) (y : NW), F[i]? = some y → (i = 0 ∧ y.2 = []) ∨ ∃ (j c : Nat) (x : NW), W[i]? = some ((j : Int), c) ∧ j < i ∧ F[j]? = some x ∧ y.2 = x.2 ++ [c] ∧ c < 256
/-! ### turning round -/
end Go.Proofs.YtfbghcpdinlmcaaGreatDoor
/- minim.first: the walk. -/
set_option linter.unusedVariables false
set_option linter.unusedSimpArgs false
set_option maxRecDepth 100000
namespace Go.Proofs.YtfbghcpdinlmcaaGreatDoor
open Go.VC
attribute [local irreducible] mRun gRun atRun
section
variable {ask : Bool → Bool → Bool} {a b : Option AM}
end
end Go.Proofs.YtfbghcpdinlmcaaGreatDoor
/- minim.Differ, Outside, Same: the walks. -/
set_option linter.unusedVariables false
set_option linter.unusedSimpArgs false
set_option maxRecDepth 100000
namespace Go.Proofs.YtfbghcpdinlmcaaGreatDoor
open Go.VC
attribute [local irreducible] mRun gRun atRun
def outB (x y : Bool) : Bool := x && !y
section
variable {S : Nat → Prop} {H : Heap} {va vb : Value} {a b : Option AM}
end
end Go.Proofs.YtfbghcpdinlmcaaGreatDoor
/- auto of the laws of layer 09. -/
set_option linter.unusedVariables false
set_option linter.unusedSimpArgs false
set_option maxRecDepth 100000
namespace Go.Proofs.YtfbghcpdinlmcaaGreatDoor
open Go.VC
attribute [local irreducible] mRun atRun

end Go.Proofs.YtfbghcpdinlmcaaGreatDoor
/- Cat's and Iter's answers for the texts of at least one byte; two words one of which comes ahead; plain law. -/
set_option linter.unusedVariables false
set_option linter.unusedSimpArgs false
set_option maxRecDepth 100000
namespace Go.VC
end Go.VC
namespace Go.Proofs.YtfbghcpdinlmcaaGreatDoor
open Go.VC
def oneM : AM := madeM [BitVec.allOnes 256] [[1], [1]] [false, true]
attribute [local irreducible] oneM mRun gRun atRun
/-! ### ahead -/
end Go.Proofs.YtfbghcpdinlmcaaGreatDoor

/- speaks and ahead of the laws of layer 9: the walks. -/
set_option linter.unusedVariables false
set_option linter.unusedSimpArgs false
set_option maxRecDepth 100000
namespace Go.Proofs.YtfbghcpdinlmcaaGreatDoor
open Go.VC
attribute [local irreducible] oneM mRun gRun atRun
end Go.Proofs.YtfbghcpdinlmcaaGreatDoor
/- The canonical automata of two automata with the same members are alike; plain law. -/
set_option linter.unusedVariables false
set_option linter.unusedSimpArgs false
set_option maxRecDepth 100000
namespace Go.Proofs.YtfbghcpdinlmcaaGreatDoor
open Go.VC
attribute [local irreducible] mRun gRun atRun
/-! ### the walk, mapped -/
section
variable {K K' : Type} [DecidableEq K] [DecidableEq K'] {most : Nat} {step : K → Nat → K} {step' : K' → Nat → K'} {start : K} {f : K → K'} {I : K → Prop}
def mpF (f : K → K') (p : List K × List Nat) : List K' × List Nat := (p.1.map f, p.2)
def allI (I : K → Prop) (s : Option (List K × List Nat)) : Prop := ∀ F r, s = some (F, r) → ∀ y ∈ F, I y
theorem atF_map {F : List K} {k : K} (h : ∀ y ∈ F, f y = f k → y = k) : (atF most F k).map (fun p => (p.1.map f, p.2)) = atF most (F.map f) (f k) := by
  unfold atF
  have e : (F.map f).findIdx? (· = f k) = F.findIdx? (· = k) := by
    rw [List.findIdx?_map]
    exact findIdx_congr fun y hy => by
      show decide (f y = f k) = decide (y = k)
      rw [decide_eq_decide]
      exact ⟨h y hy, fun e => by rw [e]⟩
  rw [e]
  cases F.findIdx? (· = k) with
  | some i => rfl
  | none =>
    simp only [List.length_map]
    split
    · simp
    · rfl
theorem rowF_map {x : K} {b : Nat} {s : Option (List K × List Nat)} (hI : allI I s) (hx : I (step x b)) (hinj : ∀ y z, I y → I z → f y = f z → y = z) (hst : f (step x b) = step' (f x) b) : (rowF most step x s b).map (mpF f) = rowF most step' (f x) (s.map (mpF f)) b ∧ allI I (rowF most step x s b) := by
  cases s with
  | none => exact ⟨rfl, fun F r h => by cases h⟩
  | some p =>
    obtain ⟨F, r⟩ := p
    have hF := hI F r rfl
    have h := atF_map (most := most) (f := f) (F := F) (k := step x b) fun y hy => hinj y _ (hF y hy) hx
    have e : (rowF most step' (f x) ((some (F, r)).map (mpF f)) b) = (atF most (F.map f) (step' (f x) b)).map fun q => (q.1, r ++ [q.2]) := rfl
    rw [e, ← hst, ← h]
    cases ha : atF most F (step x b) with
    | none =>
      have e2 : rowF most step x (some (F, r)) b = none := by
        show (atF most F (step x b)).map _ = none
        rw [ha]; rfl
      rw [e2]
      exact ⟨rfl, fun F r h => by cases h⟩
    | some q =>
      obtain ⟨G, i⟩ := q
      have e2 : rowF most step x (some (F, r)) b = some (G, r ++ [i]) := by
        show (atF most F (step x b)).map _ = _
        rw [ha]; rfl
      rw [e2]
      refine ⟨rfl, fun F' r' e y hy => ?_⟩
      injection e with e
      injection e with e1 e3
      subst e1
      rcases atF_mem2 ha y hy with h | rfl
      · exact hF y h
      · exact hx
theorem foldF_map {x : K} (hinj : ∀ y z, I y → I z → f y = f z → y = z) : ∀ (l : List Nat) (s : Option (List K × List Nat)), allI I s → (∀ b ∈ l, I (step x b) ∧ f (step x b) = step' (f x) b) → (l.foldl (rowF most step x) s).map (mpF f) = l.foldl (rowF most step' (f x)) (s.map (mpF f)) ∧ allI I (l.foldl (rowF most step x) s)
  | [], s, hs, _ => ⟨rfl, hs⟩
  | b :: l, s, hs, h => by
    obtain ⟨h1, h2⟩ := rowF_map (most := most) hs (h b (by simp)).1 hinj (h b (by simp)).2
    rw [List.foldl_cons, List.foldl_cons, ← h1]
    exact foldF_map hinj l _ h2 fun c hc => h c (by simp [hc])
theorem rowsF_map (hinj : ∀ y z, I y → I z → f y = f z → y = z) (h0 : I start) (hst : ∀ x b, I x → b < 256 → I (step x b) ∧ f (step x b) = step' (f x) b) : ∀ n, (rowsF most step (List.range 256) start n).map (fun p => (p.1.map f, p.2)) = rowsF most step' (List.range 256) (f start) n ∧ ∀ F rows, rowsF most step (List.range 256) start n = some (F, rows) → ∀ y ∈ F, I y
  | 0 => ⟨rfl, fun F rows e y hy => by
    injection e with e
    injection e with e1 e2
    subst e1
    rw [List.mem_singleton.1 hy]
    exact h0⟩
  | n + 1 => by
    obtain ⟨h1, h2⟩ := rowsF_map hinj h0 hst n
    rw [rowsF, rowsF, ← h1]
    cases hr : rowsF most step (List.range 256) start n with
    | none => exact ⟨rfl, fun F rows e => by cases e⟩
    | some p =>
      obtain ⟨F, rows⟩ := p
      have hF := h2 F rows hr
      simp only [Option.bind_some, Option.map_some, List.getElem?_map]
      cases hg : F[n]? with
      | none => exact ⟨rfl, fun F' rows' e y hy => by
          injection e with e
          injection e with e1 e2
          subst e1
          exact hF y hy⟩
      | some x =>
        have hx := hF x (List.mem_of_getElem? hg)
        obtain ⟨h3, h4⟩ := foldF_map (most := most) (step := step) (step' := step') (x := x) hinj (List.range 256) (some (F, [])) (fun F' r e y hy => by
          injection e with e
          injection e with e1 e2
          subst e1
          exact hF y hy) fun b hb => hst x b hx (List.mem_range.1 hb)
        simp only [Option.map_some]
        rw [show (some (F.map f, ([] : List Nat))) = (some (F, ([] : List Nat))).map (mpF f) from rfl, ← h3]
        cases hq : (List.range 256).foldl (rowF most step x) (some (F, [])) with
        | none => exact ⟨rfl, fun F rows e => by cases e⟩
        | some q =>
          obtain ⟨G, r⟩ := q
          refine ⟨rfl, fun F' rows' e y hy => ?_⟩
          injection e with e
          injection e with e1 e2
          subst e1
          exact h4 G r hq y hy
theorem detW_map (hinj : ∀ y z, I y → I z → f y = f z → y = z) (h0 : I start) (hst : ∀ x b, I x → b < 256 → I (step x b) ∧ f (step x b) = step' (f x) b) : (detW most step start).map (List.map f) = detW most step' (f start) := by
  unfold detW detF
  rw [← (rowsF_map hinj h0 hst most).1]
  cases rowsF most step (List.range 256) start most <;> rfl
end
/-! ### members -/
attribute [local irreducible] detW
noncomputable instance decL : DecidableEq (List Nat → Bool) := fun a b => Classical.propDecidable (a = b)
open Classical in
noncomputable def langM (M : PA) (q : Nat) (w : List Nat) : Bool := if bytes5 w then M.fi (M.run q w) else false
def dvL (L : List Nat → Bool) (b : Nat) (w : List Nat) : Bool := L (b :: w)
def InLang (M : PA) (O : List Nat) : Prop := detW 65537 dvL (langM M 0) = some (O.map (langM M))
/-! ### the members of the program's automata -/
theorem run_paO {o : Option AM} (h : StepOk o) : ∀ (w : List Nat) (q : Nat), q < stN o → bytes5 w → runL o w (q : Int) = (((paO o).run q w : Nat) : Int) ∧ (paO o).run q w < stN o := fun w => by
  induction w with
  | nil => intro q hq _; exact ⟨rfl, hq⟩
  | cons b w ih =>
    intro q hq hw
    have hb := hw b (by simp)
    have h1 := (paO_ok h).cl q b hq hb
    have h2 := ih ((paO o).st q b) h1 fun c hc => hw c (by simp [hc])
    rw [runL_cons, paO_st h hq hb]
    exact h2
/-! ### the words of askG -/
end Go.Proofs.YtfbghcpdinlmcaaGreatDoor
/- odd and ahead of the laws of layer 7: the walks. -/
set_option linter.unusedVariables false
set_option linter.unusedSimpArgs false
set_option maxRecDepth 100000
namespace Go.Proofs.YtfbghcpdinlmcaaGreatDoor
open Go.VC
def odd7M : AM := madeM [BitVec.allOnes 256] [[1], [0]] [false, true]
attribute [local irreducible] odd7M mRun gRun atRun
end Go.Proofs.YtfbghcpdinlmcaaGreatDoor
/- The law DfaNews: its walk. -/
set_option linter.unusedVariables false
set_option linter.unusedSimpArgs false
set_option maxRecDepth 100000
namespace Go.VC
end Go.VC
namespace Go.Proofs.YtfbghcpdinlmcaaGreatDoor
open Go.VC
attribute [local irreducible] mRun atRun

end Go.Proofs.YtfbghcpdinlmcaaGreatDoor
/- Words, listed, Cells as memory of the call's own; the law DfaCells: its walk. -/
set_option linter.unusedVariables false
set_option linter.unusedSimpArgs false
set_option maxRecDepth 100000
namespace Go.Proofs.YtfbghcpdinlmcaaGreatDoor
open Go.VC
attribute [local irreducible] mRun atRun gRun

/-! ### the plain law -/
end Go.Proofs.YtfbghcpdinlmcaaGreatDoor
/- One table just where the same members; the automaton odd: plain laws. -/
set_option linter.unusedVariables false
set_option linter.unusedSimpArgs false
set_option maxRecDepth 100000
namespace Go.Proofs.YtfbghcpdinlmcaaGreatDoor
open Go.VC
attribute [local irreducible] mRun gRun atRun odd7M
/-! ### cells by steps -/
/-! ### the table's text -/
def IsMade (o : Option AM) : Prop := ∃ cells next final, o = autoOf cells next final
theorem IsMade.ok {o : Option AM} (h : IsMade o) : ∃ ls, CellsOk o ls := by
  obtain ⟨c, n, f, rfl⟩ := h
  exact cells_ok c n f
theorem IsMade.steps {o : Option AM} (h : IsMade o) : StepOk o := by
  obtain ⟨c, n, f, rfl⟩ := h
  exact (both_of c n f).stepOk
/-- The canonical automaton of o. -/
structure IsCan (o : Option AM) (a : Option AM) : Prop where
  made : IsMade a
  ex : ∃ O, InLang (paO o) O ∧ InOrder (paO o) O ∧ LeadsC (paO o) O (stepM a) (finM a) ∧ stN a = O.length
/-! ### odd -/
/-! ### a table's bytes -/
end Go.Proofs.YtfbghcpdinlmcaaGreatDoor
/- The walk over all things that words lead to, for any steps: what automaton it makes, on both sides; products. Plain law. -/
set_option linter.unusedVariables false
set_option linter.unusedSimpArgs false
set_option maxRecDepth 100000
namespace Go.Proofs.YtfbghcpdinlmcaaGreatDoor
open Go.VC
attribute [local irreducible] mRun gRun atRun
section
variable {K : Type} {most : Nat} {step : K → Nat → K} {start : K} {P : K → Prop} {fin : K → Bool} {sets : List (BitVec 256)}
/-- What steps, a beginning and sets of bytes must bear. -/
structure GenOk (step : K → Nat → K) (start : K) (P : K → Prop) (sets : List (BitVec 256)) : Prop where
  beg : P start
  st : ∀ x b, P x → P (step x b)
  sep : ∀ g b, g < 256 → b < 256 → sigEq sets g b = true → ∀ x, P x → step x g = step x b
theorem GenOk.cov (h : GenOk step start P sets) : CovP P step (leastB sets) := fun b hb hp => by
  obtain ⟨g, g1, g2, g3⟩ := exists_least (cells := sets) (b := b) b (sigEq_refl sets b)
  have hne : g ≠ b := fun e => by rw [e, hp] at g3; cases g3
  exact ⟨g, by omega, g3, fun x hx => h.sep g b (by omega) hb (sigEq_iff.2 fun c hc => (sigEq_iff.1 g2 c hc).symm) x hx⟩
theorem GenOk.detA [DecidableEq K] (h : GenOk step start P sets) (hm : 1 ≤ most) : (detF most step (repsM sets) start).map Prod.fst = detW most step start := by
  rw [repsM_filter]
  exact detW_of h.cov hm h.beg h.st
structure LeadsG (step : K → Nat → K) (fin : K → Bool) (F : List K) (st : Int → Nat → Int) (fi : Int → Bool) : Prop where
  st : ∀ (q b : Nat) (x : K), F[q]? = some x → b < 256 → ∃ t : Nat, st (q : Int) b = (t : Int) ∧ F[t]? = some (step x b)
  fi : ∀ (q : Nat) (x : K), F[q]? = some x → fi (q : Int) = fin x
theorem genRows [DecidableEq K] (h : GenOk step start P sets) {bs : List Nat} {F : List K} {rows : List (List Nat)} (hm : 1 ≤ most) (hd : detF most step bs start = some (F, rows)) : RowsOk most step bs start F.length F rows ∧ ∀ x ∈ F, P x := by
  obtain ⟨-, -, -, g4⟩ := rows_inv (P := P) hm h.beg (fun x b hx => h.st x b hx) bs most F rows hd
  exact ⟨rowsF_ok hm F.length F rows (detF_at hm hd) fun j hj => hj, g4⟩
theorem rowG_lt {bs : List Nat} {F : List K} {rows : List (List Nat)} (hk : RowsOk most step bs start F.length F rows) {q : Nat} {row : List Nat} (hr : rows[q]? = some row) : row.length = bs.length ∧ ∀ t ∈ row, t < F.length := by
  have hcl := hk.cols row (List.mem_of_getElem? hr)
  refine ⟨hcl, fun t ht => ?_⟩
  obtain ⟨k, hkt⟩ := List.getElem?_of_mem ht
  have hkl := (List.getElem?_eq_some_iff.1 hkt).1
  obtain ⟨b, hb⟩ := get_some (l := bs) (k := k) (by omega)
  have hql := (List.getElem?_eq_some_iff.1 hr).1
  rw [hk.rl] at hql
  obtain ⟨x, hx⟩ := get_some (l := F) (k := q) hql
  exact (List.getElem?_eq_some_iff.1 (hk.ok q k row b t x hr hb hkt hx)).1
/-- The program's automaton. -/
theorem autoG [DecidableEq K] (h : GenOk step start P sets) {F : List K} {rows : List (List Nat)} (hm : 1 ≤ most) (hm2 : most ≤ 65536) (hd : detF most step (repsM sets) start = some (F, rows)) :
    soundB (atomsM sets) (rows.map rowI) F.length = true ∧ LeadsG step fin F (stepM (some (madeM (atomsM sets) (rows.map rowI) (F.map fin)))) (finM (some (madeM (atomsM sets) (rows.map rowI) (F.map fin)))) ∧ stN (some (madeM (atomsM sets) (rows.map rowI) (F.map fin))) = F.length := by
  obtain ⟨hk, hP⟩ := genRows h hm hd
  have h0 := (List.getElem?_eq_some_iff.1 hk.zero).1
  have hlen := hk.len
  have hrl : (rows.map rowI).length = F.length := by rw [List.length_map, hk.rl]
  have hbl : (repsM sets).length = (atomsM sets).length := List.length_map _
  have hs : soundB (atomsM sets) (rows.map rowI) F.length = true := by
    rw [soundB_iff]
    refine ⟨⟨by omega, by omega, hrl⟩, fun b hb => atoms_cnt _ hb, fun r hr => ?_⟩
    obtain ⟨row, hrow, rfl⟩ := List.mem_map.1 hr
    obtain ⟨q, hq⟩ := List.getElem?_of_mem hrow
    obtain ⟨h1, h2⟩ := rowG_lt hk hq
    unfold rowOk
    rw [Bool.and_eq_true, beq_iff_eq, List.all_eq_true]
    refine ⟨by unfold rowI; rw [List.length_map, h1, hbl], fun t ht => ?_⟩
    obtain ⟨u, hu, rfl⟩ := List.mem_map.1 ht
    have := h2 u hu
    simp only [Bool.and_eq_true, decide_eq_true_eq]
    omega
  have hfl : (F.map fin).length = F.length := List.length_map _
  refine ⟨hs, ⟨fun q b x hx hb => ?_, fun q x hx => ?_⟩, by simp only [stN, madeM, List.length_map]; exact hk.rl⟩
  · obtain ⟨row, hrow⟩ := get_some (l := rows) (k := q) (by rw [hk.rl]; exact (List.getElem?_eq_some_iff.1 hx).1)
    obtain ⟨h1, h2⟩ := rowG_lt hk hrow
    obtain ⟨c1, c2⟩ := soundB_cells hs hb
    obtain ⟨c, hc⟩ := get_some c1
    have hcb := c2 c hc
    obtain ⟨t, ht⟩ := get_some (l := row) (k := cellOf (atomsM sets) b) (by omega)
    have hbs : (repsM sets)[cellOf (atomsM sets) b]? = some (nextM c 0).1 := by unfold repsM; rw [List.getElem?_map, hc]; rfl
    have hok := hk.ok q _ row _ t x hrow hbs ht hx
    have hcm := atoms_mem.1 (List.mem_of_getElem? hc)
    have hp := part_ok sets
    have hsg : sigEq sets (nextM c 0).1 b = true := sigEq_iff.2 fun s hs => hp.same c hcm _ _ (least_of (hp.ne c hcm)).1 hcb s hs
    refine ⟨t, ?_, by rw [hok, h.sep _ b (nextM_lt c 0) hb hsg x (hP x (List.mem_of_getElem? hx))]⟩
    rw [madeM_step (row := rowI row) (by rw [hfl]; exact hs) (by rw [List.getElem?_map, hrow]; rfl) hb]
    unfold rowI
    rw [List.getD_eq_getElem?_getD, List.getElem?_map, ht]
    rfl
  · simp [finM, madeM, hx]
/-- What the automaton takes. -/
theorem leadsG_run {F : List K} {s1 : Int → Nat → Int} {f1 : Int → Bool} (h1 : LeadsG step fin F s1 f1) : ∀ (w : List Nat) (q : Nat) (x : K), bytes_ w → F[q]? = some x → ∃ t : Nat, w.foldl s1 (q : Int) = (t : Int) ∧ F[t]? = some (w.foldl step x)
  | [], q, x, _, hx => ⟨q, rfl, hx⟩
  | b :: w, q, x, hw, hx => by
    obtain ⟨t, e, ht⟩ := h1.st q b x hx (hw b (by simp))
    obtain ⟨u, e2, hu⟩ := leadsG_run h1 w t (step x b) (fun c hc => hw c (by simp [hc])) ht
    exact ⟨u, by rw [List.foldl_cons, e]; exact e2, hu⟩
/-- Where there's no room, there are more things than room. -/
theorem rowsF_none_many [DecidableEq K] (hm : 1 ≤ most) (h0 : P start) (hs : ∀ x b, P x → P (step x b)) (bs : List Nat) : ∀ n, rowsF most step bs start n = none → ∃ L : List K, L.Nodup ∧ L.length = most + 1 ∧ ∀ x ∈ L, P x
  | 0, h => by cases h
  | n + 1, h => by
    rw [rowsF] at h
    cases hr : rowsF most step bs start n with
    | none => exact rowsF_none_many hm h0 hs bs n hr
    | some p =>
      obtain ⟨f, rows⟩ := p
      obtain ⟨i1, i2, -, i4⟩ := rows_inv (P := P) hm h0 hs bs n f rows hr
      rw [hr] at h
      simp only [Option.bind_some] at h
      cases hx : f[n]? with
      | none => rw [hx] at h; cases h
      | some x =>
        rw [hx] at h
        simp only [Option.map_eq_none_iff] at h
        have hPx := i4 x (List.mem_of_getElem? hx)
        -- the fold fails at some byte
        have key : ∀ (l : List Nat) (g : List K) (r : List Nat), g.length ≤ most → g.Nodup → (∀ y ∈ g, P y) → l.foldl (rowF most step x) (some (g, r)) = none → ∃ L : List K, L.Nodup ∧ L.length = most + 1 ∧ ∀ y ∈ L, P y := fun l => by
          induction l with
          | nil => intro g r _ _ _ h; cases h
          | cons b l ih =>
            intro g r hg hnd hP h
            rw [List.foldl_cons] at h
            cases ha : atF most g (step x b) with
            | none =>
              unfold atF at ha
              cases hf : g.findIdx? (· = step x b) with
              | some j => rw [hf] at ha; cases ha
              | none =>
                rw [hf] at ha
                simp only at ha
                split at ha
                · cases ha
                · have hno : step x b ∉ g := fun hmem => by
                    rw [List.findIdx?_eq_none_iff] at hf
                    have := hf _ hmem
                    simp at this
                  refine ⟨g ++ [step x b], List.nodup_append.2 ⟨hnd, by simp, fun u hu v hv => ?_⟩, by simp; omega, fun y hy => ?_⟩
                  · rw [List.mem_singleton] at hv
                    subst hv
                    exact fun e => hno (e ▸ hu)
                  · rcases List.mem_append.1 hy with hy | hy
                    · exact hP y hy
                    · rw [List.mem_singleton] at hy; subst hy; exact hs x b hPx
            | some q =>
              obtain ⟨g2, i⟩ := q
              have e : rowF most step x (some (g, r)) b = some (g2, r ++ [i]) := by
                show (atF most g (step x b)).map _ = _
                rw [ha]; rfl
              rw [e] at h
              obtain ⟨-, k2, k3, -⟩ := atF_some ha hg hnd
              exact ih g2 _ k2 k3 (fun y hy => by
                rcases atF_mem2 ha y hy with h | rfl
                · exact hP y h
                · exact hs x b hPx) h
        exact key bs f [] i1 i2 i4 h
end
/-! ### products -/
def stepPr (a b : Option AM) (x : Int × Int) (c : Nat) : Int × Int := if c < 256 then (stepM a x.1 c, stepM b x.2 c) else x
def inPr (a b : Option AM) (x : Int × Int) : Prop := (0 ≤ x.1 ∧ x.1 < stN a) ∧ 0 ≤ x.2 ∧ x.2 < stN b
/-- Bytes of one cell step alike. -/
theorem cells_sep {o : Option AM} {ls : List Nat} (h : CellsOk o ls) {g b : Nat} (hg : g < 256) (hb : b < 256) (hs : ∀ c ∈ cellsM o, c.getLsbD g = c.getLsbD b) {q : Int} (h0 : 0 ≤ q) (h1 : q < stN o) : stepM o q g = stepM o q b := by
  obtain ⟨k, c, hk, hcb, -⟩ := h.part b hb
  have hcg : c.getLsbD g = true := by rw [hs c (List.mem_of_getElem? hk)]; exact hcb
  obtain ⟨l, hl, -⟩ := h.least k c hk
  rw [(h.keeps k c l g hk hl hg hcg).2 q h0 h1, (h.keeps k c l b hk hl hb hcb).2 q h0 h1]
theorem genPr {a b : Option AM} (ha : IsMade a) (hb : IsMade b) : GenOk (stepPr a b) ((0, 0) : Int × Int) (inPr a b) (cellsM a ++ cellsM b) := by
  have sa := ha.steps
  have sb := hb.steps
  have a1 := sa.n1
  have b1 := sb.n1
  obtain ⟨la, ca⟩ := ha.ok
  obtain ⟨lb, cb⟩ := hb.ok
  refine ⟨⟨⟨Int.le_refl _, by omega⟩, Int.le_refl _, by omega⟩, fun x c hx => ?_, fun g c hg hc hs x hx => ?_⟩
  · unfold stepPr
    split
    · rename_i h
      have h1 := sa.step x.1 c hx.1 h
      have h2 := sb.step x.2 c hx.2 h
      exact ⟨h1, h2⟩
    · exact hx
  · unfold stepPr
    rw [if_pos hg, if_pos hc]
    have h1 := cells_sep ca hg hc (fun d hd => (sigEq_iff.1 hs d (List.mem_append_left _ hd))) hx.1.1 hx.1.2
    have h2 := cells_sep cb hg hc (fun d hd => (sigEq_iff.1 hs d (List.mem_append_right _ hd))) hx.2.1 hx.2.2
    rw [h1, h2]
/-- The pairs that are reached, within a budget. -/
def prW (a b : Option AM) (most : Nat) : Option (List (Int × Int)) := detW most (stepPr a b) (0, 0)
theorem prW_none {a b : Option AM} (ha : IsMade a) (hb : IsMade b) {most : Nat} (hm : 1 ≤ most) (h : prW a b most = none) : most < stN a * stN b := by
  unfold prW detW at h
  rw [Option.map_eq_none_iff] at h
  have hg := genPr ha hb
  obtain ⟨L, h1, h2, h3⟩ := rowsF_none_many hm hg.beg (fun x c hx => hg.st x c hx) _ _ h
  have hn : (L.map fun x : Int × Int => x.1.toNat * stN b + x.2.toNat).Nodup := by
    unfold List.Nodup at h1 ⊢
    rw [List.pairwise_map]
    refine (List.pairwise_iff_getElem.2 fun i j hi hj hij => ?_)
    have hne := List.pairwise_iff_getElem.1 h1 i j hi hj hij
    have hx := h3 _ (List.getElem_mem hi)
    have hy := h3 _ (List.getElem_mem hj)
    intro e
    apply hne
    obtain ⟨⟨x1, x2⟩, x3, x4⟩ := hx
    obtain ⟨⟨y1, y2⟩, y3, y4⟩ := hy
    have hb0 : L[i].2.toNat < stN b := by omega
    have hb1 : L[j].2.toNat < stN b := by omega
    have e1 : L[i].1.toNat = L[j].1.toNat := by
      have : (L[i].1.toNat * stN b + L[i].2.toNat) / stN b = (L[j].1.toNat * stN b + L[j].2.toNat) / stN b := by rw [e]
      rw [Nat.mul_comm, Nat.mul_add_div (by omega), Nat.div_eq_of_lt hb0, Nat.mul_comm, Nat.mul_add_div (by omega), Nat.div_eq_of_lt hb1] at this
      omega
    have e2 : L[i].2.toNat = L[j].2.toNat := by rw [e1] at e; omega
    exact Prod.ext (by omega) (by omega)
  have := nodup_lt hn (n := stN a * stN b) fun q hq => by
    obtain ⟨x, hx, rfl⟩ := List.mem_map.1 hq
    obtain ⟨⟨x1, x2⟩, x3, x4⟩ := h3 x hx
    have k1 : x.1.toNat + 1 ≤ stN a := by omega
    have k2 := Nat.mul_le_mul_right (stN b) k1
    rw [Nat.succ_mul] at k2
    omega
  rw [List.length_map] at this
  omega
end Go.Proofs.YtfbghcpdinlmcaaGreatDoor
/- Interface values: asking for their type, comparing with nil, calling their methods. -/
set_option linter.unusedVariables false
set_option linter.unusedSimpArgs false
namespace Go.VC
section
variable {P : Program} {t : TypeId} {x y : Operand} {S : Nat → Prop} {H : Heap} {K : Value → Prop} {T A : TypeId} {v z : Value} {d : TypeDesc}
theorem vta_yes (hd : P.underlying A = some d) (hn : ∀ ms, d ≠ .interface ms) (k : K (.tuple #[v, .bool true])) : VDet P (Instr.typeAssert (.iface A v) t A true) S H K := by
  refine VDet.mk _ (fun w _ => ?_) k
  unfold Instr.typeAssert
  simp only [Sem.run_bind, run_underlying hd, Result.andThen_ok]
  cases d <;> first | (exact absurd rfl (hn _)) | simp
theorem vta_no (hd : P.underlying A = some d) (hn : ∀ ms, d ≠ .interface ms) (hz : (P.info? A).bind (·.zero) = some z) (hne : T ≠ A) (k : K (.tuple #[z, .bool false])) : VDet P (Instr.typeAssert (.iface T v) t A true) S H K := by
  refine VDet.mk _ (fun w _ => ?_) k
  have hzr : (zeroValue A).run P w = .ok z w := by
    cases hi : P.info? A with
    | none => rw [hi] at hz; cases hz
    | some i =>
      have hz' : i.zero = some z := by simpa [hi] using hz
      simp [zeroValue, typeInfo, hi, hz']
  unfold Instr.typeAssert
  simp only [Sem.run_bind, run_underlying hd, Result.andThen_ok]
  cases d <;> first | (exact absurd rfl (hn _)) | simp [hne, hzr]
theorem run_if_nil {ms : Array (String × TypeId)} (h : P.underlying t = some (.interface ms)) (w : World) : (Op.equal t (.iface T v) .nilIface).run P w = .ok false w := by
  have : ∀ d : Nat, (Op.equalIn (d + 1) t (.iface T v) .nilIface).run P w = .ok false w := fun d => by
    simp [Op.equalIn, run_underlying h]
  exact this 9999
theorem run_nil_nil {ms : Array (String × TypeId)} (h : P.underlying t = some (.interface ms)) (w : World) : (Op.equal t .nilIface .nilIface).run P w = .ok true w := by
  have : ∀ d : Nat, (Op.equalIn (d + 1) t .nilIface .nilIface).run P w = .ok true w := fun d => by
    simp [Op.equalIn, run_underlying h]
  exact this 9999
theorem ifeq {ms : Array (String × TypeId)} (h : P.underlying t = some (.interface ms)) (k : K (.bool false)) : VDet P (do eqGuard .eql t x y (.iface T v) .nilIface; binOp .eql t (.iface T v) .nilIface) S H K := by
  refine VDet.mk _ (fun w _ => ?_) k
  simp [eqGuard, binOp, run_if_nil h]
theorem ifneq {ms : Array (String × TypeId)} (h : P.underlying t = some (.interface ms)) (k : K (.bool true)) : VDet P (do eqGuard .neq t x y (.iface T v) .nilIface; binOp .neq t (.iface T v) .nilIface) S H K := by
  refine VDet.mk _ (fun w _ => ?_) k
  simp [eqGuard, binOp, run_if_nil h]
theorem ifeqN {ms : Array (String × TypeId)} {c : Value} (h : P.underlying t = some (.interface ms)) (k : K (.bool true)) : VDet P (do eqGuard .eql t x (.const c) .nilIface .nilIface; binOp .eql t .nilIface .nilIface) S H K := by
  refine VDet.mk _ (fun w _ => ?_) k
  simp [eqGuard, binOp, run_nil_nil h]
end
end Go.VC
namespace Go.Proofs.YtfbghcpdinlmcaaGreatDoor
open Go.VC
theorem m_eps_size (x : Value) (w : World) : (callMethod (.iface 98 x) "Size" #[]).run Tryz.prog w = .ok (.enter 271 #[x]) w := by kernel_rfl
theorem m_cls_size (x : Value) (w : World) : (callMethod (.iface 104 x) "Size" #[]).run Tryz.prog w = .ok (.enter 273 #[x]) w := by kernel_rfl
theorem m_cat_size (x : Value) (w : World) : (callMethod (.iface 105 x) "Size" #[]).run Tryz.prog w = .ok (.enter 275 #[x]) w := by kernel_rfl
theorem m_alt_size (x : Value) (w : World) : (callMethod (.iface 305 x) "Size" #[]).run Tryz.prog w = .ok (.enter 278 #[x]) w := by kernel_rfl
theorem m_star_size (x : Value) (w : World) : (callMethod (.iface 310 x) "Size" #[]).run Tryz.prog w = .ok (.enter 280 #[x]) w := by kernel_rfl
theorem m_and_size (x : Value) (w : World) : (callMethod (.iface 64 x) "Size" #[]).run Tryz.prog w = .ok (.enter 266 #[x]) w := by kernel_rfl
theorem m_minus_size (x : Value) (w : World) : (callMethod (.iface 65 x) "Size" #[]).run Tryz.prog w = .ok (.enter 269 #[x]) w := by kernel_rfl
end Go.Proofs.YtfbghcpdinlmcaaGreatDoor
