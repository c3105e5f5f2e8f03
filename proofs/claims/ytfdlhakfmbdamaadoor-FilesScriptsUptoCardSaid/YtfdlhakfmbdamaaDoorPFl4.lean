/- errors.errorString.Error, louperef25.Cause, Say; PathError.Unwrap: the walks. -/
import Derived.Test.YtfdlhakfmbdamaaDoorPFl3
import Derived.Test.YtfdlhakfmbdamaaDoorPIs
set_option linter.unusedVariables false
set_option linter.unusedSimpArgs false
set_option maxRecDepth 100000
namespace Go.Proofs.YtfdlhakfmbdamaaDoor
open Go.VC
theorem errText_p {H : Heap} {p o : Nat} {s : ByteArray} (hp : VC.cell H p o = some (.string s)) : Pure Tryd.prog 87 #[.pointer (some ⟨p, o, none⟩)] H (.string s) := by
  refine FnOk.of_vc Tryd.func87 rfl (Tryd.call87 _) ?_
  (conv => whnf); refine VC.fa fl165_0 ?_
  (conv => whnf); refine ld1 (v := .string s) ct9 hp trivial ?_
  (conv => whnf)
  exact ⟨rfl, Agr.refl _ _⟩
theorem unwrap_p {H : Heap} {p : Nat} {l : List Value} {v : Value} (hp : Blk H p 85 l) (hv : l[2]? = some v) (h1 : v.cells = #[v]) : Pure Tryd.prog 27 #[.pointer (some ⟨p, 0, none⟩)] H v := by
  refine FnOk.of_vc Tryd.func27 rfl (Tryd.call27 _) ?_
  (conv => whnf); refine VC.fa fl85_2 ?_
  (conv => whnf); refine ld1 (v := v) ct35 (by rw [hp.cell]; exact hv) trivial ?_
  (conv => whnf)
  exact ⟨rfl, Agr.refl _ _⟩
/-- errors.Is of two errors of errors.New's make. -/
theorem is_p {H : Heap} {a b : Addr} {ca cb : Array Value} {ta tb : TypeId} (ha : H[a.block]? = some (.cells ca ta (0, 0))) (hb : H[b.block]? = some (.cells cb tb (0, 0))) :
    Pure Tryd.prog 28 #[.iface 141 (.pointer (some a)), .iface 141 (.pointer (some b))] H (.bool (decide (a = b))) := by
  intro w hw
  subst hw
  refine ⟨Tryd.call28 _ w, ?_⟩
  by_cases h : a = b
  · subst h
    rw [decide_eq_true rfl]
    refine (is_same a w).mono ?_
    rintro e w' ⟨rfl, rfl⟩
    exact ⟨_, rfl, Env.refl _, rfl, Agr.refl _ _⟩
  · rw [decide_eq_false h]
    refine (is_other a b ca cb ta tb w h ha hb).mono ?_
    rintro e w' ⟨rfl, rfl⟩
    exact ⟨_, rfl, Env.refl _, rfl, Agr.refl _ _⟩
def causeT : Nat → ByteArray
  | 1 => ⟨#[109, 105, 115, 115, 105, 110, 103]⟩
  | 2 => ⟨#[98, 114, 111, 107, 101, 110]⟩
  | 3 => ⟨#[102, 117, 108, 108]⟩
  | 4 => ⟨#[98, 97, 100, 32, 110, 97, 109, 101]⟩
  | _ => ⟨#[]⟩
theorem cause_p {H : Heap} {n : Nat} (hn : n < 5) : Pure Tryd.prog 38 #[.int .i64 (n : Int)] H (.string (causeT n)) := by
  refine FnOk.of_vc Tryd.func38 rfl (Tryd.call38 _) ?_
  (conv => whnf); refine vbuildL sl71 [.string (causeT 0), .string (causeT 1), .string (causeT 2), .string (causeT 3), .string (causeT 4)] [[.string (causeT 0)], [.string (causeT 1)], [.string (causeT 2)], [.string (causeT 3)], [.string (causeT 4)]] rfl (by simp) rfl (by decide) (by decide) ?_
  intro q H1 hq hs hb ha
  (conv => whnf); refine ix sl71 (by omega) (by omega) ?_
  (conv => whnf); refine ld1 (v := .string (causeT n)) ct9 ?_ trivial ?_
  · rw [hb.cell, show 0 + ((n : Nat) : Int).toNat * 1 = n by omega]
    match n, hn with
    | 0, _ => rfl
    | 1, _ => rfl
    | 2, _ => rfl
    | 3, _ => rfl
    | 4, _ => rfl
  (conv => whnf)
  exact ⟨rfl, ha.mono fun k hk => by have : k < H.size := hk; omega⟩
end Go.Proofs.YtfdlhakfmbdamaaDoor
