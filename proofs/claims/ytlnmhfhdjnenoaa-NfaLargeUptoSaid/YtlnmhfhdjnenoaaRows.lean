/-
  No cell of these rows narrows 'for every input' (looked for: loops, veiled, ifaces, maps, wideKeys, modest, calm, conditions, laid).
  DERIVED. THE GIVEN ROWS OF THIS SEAT. 4 by the template 'for every input the law returns true; each argument reads behind the call as it read before'; 0 by the template 'total and deterministic' (their statements: YtlnmhfhdjnenoaaTotals.lean).
  GIVEN WITH THE SEED: the statements are not yours to turn. If you find one false, say at which input.
  Laid BY PROGRAM, IN A SANDBOX (cutbox-rows.mjs): the forced cells as the released guide's own fill.sh prints them over the translation 67d8b153912359c1… (all of the seat's roots in one cut). By AI agents, Wed Nov 11 2026. No macro, syntax, notation, axiom, sorry.
-/
import Derived.Test.YtlnmhfhdjnenoaaChecked
import GoSem.Claim
import GoSem.ClaimJoined
import GoSem.ClaimMapViews
import Derived.JoinedTies
import Derived.KernelRfl
namespace Go.Proofs.Ytlnmhfhdjnenoaa
/- THE CELL 'sum', in the pinned program and in every row, IS THE sha256 OF THE DUMP (.gsa) THAT YtlnmhfhdjnenoaaProg.lean LOADS. Nothing in Lean hashes anything: it is a label: what it is worth is what the hold of that sum in a sandbox is worth. -/
noncomputable def Try.pinned : Pinned := { name := "ytlnmhfhdjnenoaa", sum := "67d8b153912359c10e78fd0f43fcc2e78e8289e2aa1381be5b1f01aff241b5b3", checked := Try.checked }
namespace Rows
def none {H : Type} : Left H := { results := [], args := [] }

/-- 'loupelaw04.NfaLarge': WHATEVER THE INPUT: true; the input reads as it did. -/
def nfaLargeSpec : ChangeSpec := { name := "nfaLarge", fn := fun _ => fun
  | [d] => { results := [.lit (.bool true)], args := [d] }
  | _ => none }
def nfaLargeRow : OpenClaim := { program := "ytlnmhfhdjnenoaa", sum := "67d8b153912359c10e78fd0f43fcc2e78e8289e2aa1381be5b1f01aff241b5b3", func := "loupe/loupelaw04.NfaLarge", spec := "nfaLarge", unfollowed := true, recurses := true, apart := false }
def NfaLargeSaid : Prop := nfaLargeRow.holds Try.pinned (OpenSpec.ofChange nfaLargeSpec)

/-- ITS FALSE NEIGHBOUR: 'it returns false'. Refute it at one input. -/
def nfaLargeWrong : ChangeSpec := { name := "nfaLarge", fn := fun _ => fun
  | [d] => { results := [.lit (.bool false)], args := [d] }
  | _ => none }
def NfaLargeWrongFalsely : Prop := nfaLargeRow.holds Try.pinned (OpenSpec.ofChange nfaLargeWrong)

/-- 'loupelaw04.NfaReaches': WHATEVER THE INPUT: true; the input reads as it did. -/
def nfaReachesSpec : ChangeSpec := { name := "nfaReaches", fn := fun _ => fun
  | [d1, d2] => { results := [.lit (.bool true)], args := [d1, d2] }
  | _ => none }
def nfaReachesRow : OpenClaim := { program := "ytlnmhfhdjnenoaa", sum := "67d8b153912359c10e78fd0f43fcc2e78e8289e2aa1381be5b1f01aff241b5b3", func := "loupe/loupelaw04.NfaReaches", spec := "nfaReaches", unfollowed := true, recurses := true, apart := false }
def NfaReachesSaid : Prop := nfaReachesRow.holds Try.pinned (OpenSpec.ofChange nfaReachesSpec)

/-- ITS FALSE NEIGHBOUR: 'it returns false'. Refute it at one input. -/
def nfaReachesWrong : ChangeSpec := { name := "nfaReaches", fn := fun _ => fun
  | [d1, d2] => { results := [.lit (.bool false)], args := [d1, d2] }
  | _ => none }
def NfaReachesWrongFalsely : Prop := nfaReachesRow.holds Try.pinned (OpenSpec.ofChange nfaReachesWrong)

/-- 'loupelaw04.NfaGoesOn': WHATEVER THE INPUT: true; the input reads as it did. -/
def nfaGoesOnSpec : ChangeSpec := { name := "nfaGoesOn", fn := fun _ => fun
  | [d1, d2, d3] => { results := [.lit (.bool true)], args := [d1, d2, d3] }
  | _ => none }
def nfaGoesOnRow : OpenClaim := { program := "ytlnmhfhdjnenoaa", sum := "67d8b153912359c10e78fd0f43fcc2e78e8289e2aa1381be5b1f01aff241b5b3", func := "loupe/loupelaw04.NfaGoesOn", spec := "nfaGoesOn", unfollowed := true, recurses := true, apart := false }
def NfaGoesOnSaid : Prop := nfaGoesOnRow.holds Try.pinned (OpenSpec.ofChange nfaGoesOnSpec)

/-- ITS FALSE NEIGHBOUR: 'it returns false'. Refute it at one input. -/
def nfaGoesOnWrong : ChangeSpec := { name := "nfaGoesOn", fn := fun _ => fun
  | [d1, d2, d3] => { results := [.lit (.bool false)], args := [d1, d2, d3] }
  | _ => none }
def NfaGoesOnWrongFalsely : Prop := nfaGoesOnRow.holds Try.pinned (OpenSpec.ofChange nfaGoesOnWrong)

/-- 'loupelaw04.NfaTurned': WHATEVER THE INPUT: true; the input reads as it did. -/
def nfaTurnedSpec : ChangeSpec := { name := "nfaTurned", fn := fun _ => fun
  | [d1, d2] => { results := [.lit (.bool true)], args := [d1, d2] }
  | _ => none }
def nfaTurnedRow : OpenClaim := { program := "ytlnmhfhdjnenoaa", sum := "67d8b153912359c10e78fd0f43fcc2e78e8289e2aa1381be5b1f01aff241b5b3", func := "loupe/loupelaw04.NfaTurned", spec := "nfaTurned", unfollowed := true, recurses := true, apart := false }
def NfaTurnedSaid : Prop := nfaTurnedRow.holds Try.pinned (OpenSpec.ofChange nfaTurnedSpec)

/-- ITS FALSE NEIGHBOUR: 'it returns false'. Refute it at one input. -/
def nfaTurnedWrong : ChangeSpec := { name := "nfaTurned", fn := fun _ => fun
  | [d1, d2] => { results := [.lit (.bool false)], args := [d1, d2] }
  | _ => none }
def NfaTurnedWrongFalsely : Prop := nfaTurnedRow.holds Try.pinned (OpenSpec.ofChange nfaTurnedWrong)

/- THE SECOND FORM. 'bulk': how many values and letters a reading holds, each counted each time it is reached (what is shared counts as often as it is met; a slice's spare places count too). A statement '..UptoSaid' is the law's where the arguments, and the package variables that the reading takes, are together of bulk at most 1048576: NARROWER than '..Said'. Prove '..Said' where nothing that the law and all that it calls make is longer than what came in: it says more and counts as full. Else prove '..UptoSaid'. A law counts once. -/
mutual
def uptoBulk {H : Type} : DataW H → Nat
  | .lit (.string bytes) => bytes.length + 1
  | .lit _ => 1
  | .nil => 1
  | .ptr d => uptoBulk d + 1
  | .slice elems spare => uptoBulkAll elems + uptoBulkAll spare + 1
  | .agg parts => uptoBulkAll parts + 1
  | .iface _ d => uptoBulk d + 1
  | .map entries => uptoBulkEntries entries + 1
  | .held _ => 1
def uptoBulkAll {H : Type} : List (DataW H) → Nat
  | [] => 0
  | d :: r => uptoBulk d + uptoBulkAll r
def uptoBulkEntries {H : Type} : List (Lit × DataW H) → Nat
  | [] => 0
  | x :: r => uptoBulkEntry x + uptoBulkEntries r
def uptoBulkEntry {H : Type} : Lit × DataW H → Nat
  | (.string bytes, d) => bytes.length + uptoBulk d + 1
  | (_, d) => uptoBulk d + 1
 end
def uptoSmall : (H : Type) → List (DataW H) → Bool := fun _ ds => decide (uptoBulkAll ds ≤ 1048576)
def OpenSpec.upto (s : _root_.Go.ChangeSpec) : _root_.Go.OpenSpec := { _root_.Go.OpenSpec.ofChange s with cond := some uptoSmall }

/-- 'loupelaw04.NfaLarge', WHERE WHAT IT READS IS OF BULK AT MOST 1048576: true; the input reads as it did. -/
def nfaLargeUptoRow : OpenClaim := { program := "ytlnmhfhdjnenoaa", sum := "67d8b153912359c10e78fd0f43fcc2e78e8289e2aa1381be5b1f01aff241b5b3", func := "loupe/loupelaw04.NfaLarge", spec := "nfaLarge", unfollowed := true, recurses := true, apart := false, narrowed := true }
def NfaLargeUptoSaid : Prop := nfaLargeUptoRow.holds Try.pinned (OpenSpec.upto nfaLargeSpec)

/-- 'loupelaw04.NfaReaches', WHERE WHAT IT READS IS OF BULK AT MOST 1048576: true; the input reads as it did. -/
def nfaReachesUptoRow : OpenClaim := { program := "ytlnmhfhdjnenoaa", sum := "67d8b153912359c10e78fd0f43fcc2e78e8289e2aa1381be5b1f01aff241b5b3", func := "loupe/loupelaw04.NfaReaches", spec := "nfaReaches", unfollowed := true, recurses := true, apart := false, narrowed := true }
def NfaReachesUptoSaid : Prop := nfaReachesUptoRow.holds Try.pinned (OpenSpec.upto nfaReachesSpec)

/-- 'loupelaw04.NfaGoesOn', WHERE WHAT IT READS IS OF BULK AT MOST 1048576: true; the input reads as it did. -/
def nfaGoesOnUptoRow : OpenClaim := { program := "ytlnmhfhdjnenoaa", sum := "67d8b153912359c10e78fd0f43fcc2e78e8289e2aa1381be5b1f01aff241b5b3", func := "loupe/loupelaw04.NfaGoesOn", spec := "nfaGoesOn", unfollowed := true, recurses := true, apart := false, narrowed := true }
def NfaGoesOnUptoSaid : Prop := nfaGoesOnUptoRow.holds Try.pinned (OpenSpec.upto nfaGoesOnSpec)

/-- 'loupelaw04.NfaTurned', WHERE WHAT IT READS IS OF BULK AT MOST 1048576: true; the input reads as it did. -/
def nfaTurnedUptoRow : OpenClaim := { program := "ytlnmhfhdjnenoaa", sum := "67d8b153912359c10e78fd0f43fcc2e78e8289e2aa1381be5b1f01aff241b5b3", func := "loupe/loupelaw04.NfaTurned", spec := "nfaTurned", unfollowed := true, recurses := true, apart := false, narrowed := true }
def NfaTurnedUptoSaid : Prop := nfaTurnedUptoRow.holds Try.pinned (OpenSpec.upto nfaTurnedSpec)

end Rows
end Go.Proofs.Ytlnmhfhdjnenoaa
