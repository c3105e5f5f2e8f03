/- The law AmbigIterShows: its walk. -/
import Derived.Test.YtkgmhkcncemmkaaPLst
import Derived.Test.YtkgmhkcncemmkaaPRefB
set_option linter.unusedVariables false
set_option linter.unusedSimpArgs false
set_option maxRecDepth 100000
namespace Go.Proofs.Ytkgmhkcncemmkaa
open Go.VC
attribute [local irreducible] oneM mRun gRun atRun
theorem iter_big {a : Option AM} {s : ByteArray} {w : List Nat} {ok : Bool} (hR : FirstR (iterG a) w ok) (h : 2 ≤ listsM a s) : ok = true ∧ aheadM s (bA w) = false := by
  obtain ⟨x, y, e, hx⟩ := lists_leads h
  have hbx : bytes_ x := fun b hb => unB_bytes s b (by rw [e]; exact List.mem_append.2 (.inr hb))
  cases ok with
  | false => exact absurd ⟨root, rfl, hx⟩ ((hR.2 rfl).2 x hbx)
  | true =>
    have hw := hR.1 rfl
    refine ⟨rfl, ?_⟩
    by_cases hy : y = []
    · rw [hy, List.nil_append] at e
      rw [← e] at hx
      exact hw.not_ahead hx
    · have h1 := hw.2 x hbx ⟨root, rfl, hx⟩
      have h2 := congrArg List.length e
      rw [unB_len, List.length_append] at h2
      have h3 : 0 < y.length := List.length_pos_iff.2 hy
      unfold aheadM
      rw [bA_size, decide_eq_false (by omega), decide_eq_false (by omega)]; rfl
set_option maxHeartbeats 8000000 in
theorem ambigIterShows_p (v : Value) (cells : List (BitVec 256)) (next : List (List Int)) (final : List Bool) (s : ByteArray) (S : Nat → Prop) (H : Heap) (ht : TabIn S H v cells next final) (hs : s.size ≤ 1048576) :
    Pure Try.prog 14 #[v, .string s] H (.bool true) := by
  refine FnOk.of_vc Try.func14 rfl (Try.call14 _) ?_
  (conv => whnf); refine tab_box ht fun l hl hv => ?_
  intro p H1 hp hs1 hb1 ha1
  have st1 := (St.nil H).box hp hs1 hb1 ha1
  (conv => whnf); refine pures (speaks09_p H1) fun H3 ha3 => ?_
  have st3 := st1.call ha3
  by_cases h200 : 200 < s.size
  · have d1 : decide ((200 : Int) < (s.size : Int)) = true := decide_eq_true (by omega)
    (conv => whnf); rw [d1]
    (conv => whnf); refine pures (speaks09_p H3) fun H4 ha4 => ?_
    (conv => whnf)
    exact ⟨rfl, (st3.call ha4).old⟩
  have d1 : decide ((200 : Int) < (s.size : Int)) = false := decide_eq_false (by omega)
  (conv => whnf); rw [d1]
  (conv => whnf); refine tab_load hl hv (st3.blk 0 rfl) trivial ?_
  (conv => whnf); refine VCall.mk (auto09_c v cells next final S H3 (ht.frame st3.old)) ?_
  rintro va H4 ⟨ha4, hs4, hva⟩
  have st4 := st3.call ha4
  have hca := cells_ok cells next final
  generalize autoOf cells next final = a at *
  have hva4 : AutoV (Old H4) H4 va a := hva.mono fun k hk => hk.2
  have hfin : ∀ {H' : Heap} {ps : List Pc}, St H4 H' ps → Agr (Old H) H H' := fun st => st4.old.trans (st.old.mono fun k hk => old_lt st4.old hk)
  have hup : ∀ {H' : Heap} {ps : List Pc}, St H4 H' ps → ∀ k, Old H4 k → k < H'.size := fun st k hk => old_lt st.old hk
  (conv => whnf); refine VCall.mk (iter_c (S := Old H4) (fun k hk => hk) hva4 hca) ?_
  rintro _ H5 ⟨ha5, w, ok, rfl, hans, hwl⟩
  have st5 := (St.nil H4).call ha5
  have hws := bA_size w
  (conv => whnf); refine pures (accepts_p (s := ⟨#[]⟩) (hup st5) (hva4.frame st5.old) (by decide)) fun H6 ha6 => ?_
  have st6 := st5.call ha6
  rw [show acceptsM a ⟨#[]⟩ = finM a 0 from rfl]
  cases h0 : finM a 0 with
  | true =>
    obtain ⟨rfl, rfl⟩ := hans.1 h0
    have e : ((bA []).toList == (⟨#[]⟩ : ByteArray).toList) = true := beq_self_eq_true _
    (conv => whnf); rw [e]
    (conv => whnf)
    exact ⟨rfl, hfin st6⟩
  | false =>
    have hR := hans.2 h0
    have hbig := iter_big (s := s) hR
    have hl2 := cnt2_le (A := Par a (unB s) s.size)
    cases ok with
    | false =>
      obtain ⟨rfl, -⟩ := hR.2 rfl
      have e : (!((bA []).toList == (⟨#[]⟩ : ByteArray).toList)) = false := by rw [show ((bA []).toList == (⟨#[]⟩ : ByteArray).toList) = true from beq_self_eq_true _]; rfl
      (conv => whnf); rw [e]
      (conv => whnf); refine pures (lists_p (hup st6) (hva4.frame st6.old) hs) fun H7 ha7 => ?_
      have d2 : decide ((listsM a s : Int) < 2) = true := decide_eq_true (by
        have : ¬ (2 ≤ listsM a s) := fun h => by have := (hbig h).1; cases this
        omega)
      (conv => whnf); rw [d2]
      (conv => whnf)
      exact ⟨rfl, hfin (st6.call ha7)⟩
    | true =>
      have hw := hR.1 rfl
      have h2 := leads_lists h0 hw.bytes hw.leads
      by_cases hw2 : w.length ≤ 200
      case' pos =>
        have d3 : decide (((bA w).size : Int) ≤ 200) = true := decide_eq_true (by omega)
        have d4 : decide ((listsM a (bA w) : Int) < 2) = false := decide_eq_false (by omega)
        (conv => whnf); rw [d3]
        (conv => whnf); refine pures (lists_p (hup st6) (hva4.frame st6.old) (by omega)) fun H7 ha7 => ?_
        have st7 := st6.call ha7
        (conv => whnf); rw [d4]
      case' neg =>
        have d3 : decide (((bA w).size : Int) ≤ 200) = false := decide_eq_false (by omega)
        have st7 := st6
        (conv => whnf); rw [d3]
      all_goals
        (conv => whnf); refine pures (lists_p (hup st7) (hva4.frame st7.old) hs) fun H8 ha8 => ?_
        have st8 := st7.call ha8
        by_cases h5 : listsM a s < 2
        · have d5 : decide ((listsM a s : Int) < 2) = true := decide_eq_true (by omega)
          (conv => whnf); rw [d5]
          (conv => whnf)
          exact ⟨rfl, hfin st8⟩
        · have d5 : decide ((listsM a s : Int) < 2) = false := decide_eq_false (by omega)
          obtain ⟨-, hah⟩ := hbig (by omega)
          (conv => whnf); rw [d5]
          (conv => whnf); refine pures (ahead_p s (bA w) H8) fun H9 ha9 => ?_
          rw [hah]
          (conv => whnf)
          exact ⟨rfl, hfin (st8.call ha9)⟩
end Go.Proofs.Ytkgmhkcncemmkaa
