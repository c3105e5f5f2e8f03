/-
  No cell of these rows narrows 'for every input' (looked for: loops, veiled, ifaces, maps, wideKeys, modest, calm, conditions, laid).
  DERIVED. THE GIVEN ROWS OF THIS SEAT. 4 by the template 'for every input the law returns true; each argument reads behind the call as it read before'; 0 by the template 'total and deterministic' (their statements: YtfdlhakfmbdamaaTotals.lean).
  GIVEN WITH THE SEED: the statements are not yours to turn. If you find one false, say at which input.
  Laid BY PROGRAM, IN A SANDBOX (cutbox-rows.mjs): the forced cells as the released guide's own fill.sh prints them over the translation 91bcd26a3e89fc3b… (all of the seat's roots in one cut). By AI agents, Wed Nov 11 2026. No macro, syntax, notation, axiom, sorry.
-/
import Derived.Test.YtfdlhakfmbdamaaChecked
import GoSem.Claim
import GoSem.ClaimJoined
import GoSem.ClaimMapViews
import Derived.JoinedTies
import Derived.KernelRfl
namespace Go.Proofs.Ytfdlhakfmbdamaa
/- THE CELL 'sum', in the pinned program and in every row, IS THE sha256 OF THE DUMP (.gsa) THAT YtfdlhakfmbdamaaProg.lean LOADS. Nothing in Lean hashes anything: it is a label: what it is worth is what the hold of that sum in a sandbox is worth. -/
noncomputable def Try.pinned : Pinned := { name := "ytfdlhakfmbdamaa", sum := "91bcd26a3e89fc3bf4b10c177f0d178d9f1a4ec45013b5e7c8eec78bdadb2c53", checked := Try.checked }
namespace Rows
def none {H : Type} : Left H := { results := [], args := [] }

/-- 'loupelaw17.KeysAligns': WHATEVER THE INPUT: true; the input reads as it did. -/
def keysAlignsSpec : ChangeSpec := { name := "keysAligns", fn := fun _ => fun
  | [d1, d2] => { results := [.lit (.bool true)], args := [d1, d2] }
  | _ => none }
def keysAlignsRow : OpenClaim := { program := "ytfdlhakfmbdamaa", sum := "91bcd26a3e89fc3bf4b10c177f0d178d9f1a4ec45013b5e7c8eec78bdadb2c53", func := "loupe/loupelaw17.KeysAligns", spec := "keysAligns", apart := false }
def KeysAlignsSaid : Prop := keysAlignsRow.holds Try.pinned (OpenSpec.ofChange keysAlignsSpec)

/-- ITS FALSE NEIGHBOUR: 'it returns false'. Refute it at one input. -/
def keysAlignsWrong : ChangeSpec := { name := "keysAligns", fn := fun _ => fun
  | [d1, d2] => { results := [.lit (.bool false)], args := [d1, d2] }
  | _ => none }
def KeysAlignsWrongFalsely : Prop := keysAlignsRow.holds Try.pinned (OpenSpec.ofChange keysAlignsWrong)

/-- 'loupelaw17.KeysSpares': WHATEVER THE INPUT: true; the input reads as it did. -/
def keysSparesSpec : ChangeSpec := { name := "keysSpares", fn := fun _ => fun
  | [d1, d2] => { results := [.lit (.bool true)], args := [d1, d2] }
  | _ => none }
def keysSparesRow : OpenClaim := { program := "ytfdlhakfmbdamaa", sum := "91bcd26a3e89fc3bf4b10c177f0d178d9f1a4ec45013b5e7c8eec78bdadb2c53", func := "loupe/loupelaw17.KeysSpares", spec := "keysSpares", recurses := true, apart := false }
def KeysSparesSaid : Prop := keysSparesRow.holds Try.pinned (OpenSpec.ofChange keysSparesSpec)

/-- ITS FALSE NEIGHBOUR: 'it returns false'. Refute it at one input. -/
def keysSparesWrong : ChangeSpec := { name := "keysSpares", fn := fun _ => fun
  | [d1, d2] => { results := [.lit (.bool false)], args := [d1, d2] }
  | _ => none }
def KeysSparesWrongFalsely : Prop := keysSparesRow.holds Try.pinned (OpenSpec.ofChange keysSparesWrong)

/-- 'loupelaw17.KeysMatched': WHATEVER THE INPUT: true; the input reads as it did. -/
def keysMatchedSpec : ChangeSpec := { name := "keysMatched", fn := fun _ => fun
  | [d1, d2] => { results := [.lit (.bool true)], args := [d1, d2] }
  | _ => none }
def keysMatchedRow : OpenClaim := { program := "ytfdlhakfmbdamaa", sum := "91bcd26a3e89fc3bf4b10c177f0d178d9f1a4ec45013b5e7c8eec78bdadb2c53", func := "loupe/loupelaw17.KeysMatched", spec := "keysMatched", recurses := true, apart := false }
def KeysMatchedSaid : Prop := keysMatchedRow.holds Try.pinned (OpenSpec.ofChange keysMatchedSpec)

/-- ITS FALSE NEIGHBOUR: 'it returns false'. Refute it at one input. -/
def keysMatchedWrong : ChangeSpec := { name := "keysMatched", fn := fun _ => fun
  | [d1, d2] => { results := [.lit (.bool false)], args := [d1, d2] }
  | _ => none }
def KeysMatchedWrongFalsely : Prop := keysMatchedRow.holds Try.pinned (OpenSpec.ofChange keysMatchedWrong)

/-- 'loupelaw17.KeysSelf': WHATEVER THE INPUT: true; the input reads as it did. -/
def keysSelfSpec : ChangeSpec := { name := "keysSelf", fn := fun _ => fun
  | [d1, d2] => { results := [.lit (.bool true)], args := [d1, d2] }
  | _ => none }
def keysSelfRow : OpenClaim := { program := "ytfdlhakfmbdamaa", sum := "91bcd26a3e89fc3bf4b10c177f0d178d9f1a4ec45013b5e7c8eec78bdadb2c53", func := "loupe/loupelaw17.KeysSelf", spec := "keysSelf", recurses := true, apart := false }
def KeysSelfSaid : Prop := keysSelfRow.holds Try.pinned (OpenSpec.ofChange keysSelfSpec)

/-- ITS FALSE NEIGHBOUR: 'it returns false'. Refute it at one input. -/
def keysSelfWrong : ChangeSpec := { name := "keysSelf", fn := fun _ => fun
  | [d1, d2] => { results := [.lit (.bool false)], args := [d1, d2] }
  | _ => none }
def KeysSelfWrongFalsely : Prop := keysSelfRow.holds Try.pinned (OpenSpec.ofChange keysSelfWrong)

/- THE SECOND FORM. 'bulk': how many values and letters a reading holds, each counted each time it is reached (what is shared counts as often as it is met; a slice's spare places count too). A statement '..UptoSaid' is the law's where the arguments, and the package variables that the reading takes, are together of bulk at most 1048576: NARROWER than '..Said'. Prove '..Said' where nothing that the law and all that it calls make is longer than what came in: it says more and counts as full. Else prove '..UptoSaid'. A law counts once. -/
mutual
def uptoBulk {H : Type} : DataW H → Nat
  | .lit (.string bytes) => bytes.length + 1
  | .lit _ => 1
  | .nil => 1
  | .ptr d => uptoBulk d + 1
  | .slice elems spare => uptoBulkAll elems + uptoBulkAll spare + 1
  | .agg parts => uptoBulkAll parts + 1
  | .iface _ d => uptoBulk d + 1
  | .map entries => uptoBulkEntries entries + 1
  | .held _ => 1
def uptoBulkAll {H : Type} : List (DataW H) → Nat
  | [] => 0
  | d :: r => uptoBulk d + uptoBulkAll r
def uptoBulkEntries {H : Type} : List (Lit × DataW H) → Nat
  | [] => 0
  | x :: r => uptoBulkEntry x + uptoBulkEntries r
def uptoBulkEntry {H : Type} : Lit × DataW H → Nat
  | (.string bytes, d) => bytes.length + uptoBulk d + 1
  | (_, d) => uptoBulk d + 1
 end
def uptoSmall : (H : Type) → List (DataW H) → Bool := fun _ ds => decide (uptoBulkAll ds ≤ 1048576)
def OpenSpec.upto (s : _root_.Go.ChangeSpec) : _root_.Go.OpenSpec := { _root_.Go.OpenSpec.ofChange s with cond := some uptoSmall }

/-- 'loupelaw17.KeysAligns', WHERE WHAT IT READS IS OF BULK AT MOST 1048576: true; the input reads as it did. -/
def keysAlignsUptoRow : OpenClaim := { program := "ytfdlhakfmbdamaa", sum := "91bcd26a3e89fc3bf4b10c177f0d178d9f1a4ec45013b5e7c8eec78bdadb2c53", func := "loupe/loupelaw17.KeysAligns", spec := "keysAligns", apart := false, narrowed := true }
def KeysAlignsUptoSaid : Prop := keysAlignsUptoRow.holds Try.pinned (OpenSpec.upto keysAlignsSpec)

/-- 'loupelaw17.KeysSpares', WHERE WHAT IT READS IS OF BULK AT MOST 1048576: true; the input reads as it did. -/
def keysSparesUptoRow : OpenClaim := { program := "ytfdlhakfmbdamaa", sum := "91bcd26a3e89fc3bf4b10c177f0d178d9f1a4ec45013b5e7c8eec78bdadb2c53", func := "loupe/loupelaw17.KeysSpares", spec := "keysSpares", recurses := true, apart := false, narrowed := true }
def KeysSparesUptoSaid : Prop := keysSparesUptoRow.holds Try.pinned (OpenSpec.upto keysSparesSpec)

/-- 'loupelaw17.KeysMatched', WHERE WHAT IT READS IS OF BULK AT MOST 1048576: true; the input reads as it did. -/
def keysMatchedUptoRow : OpenClaim := { program := "ytfdlhakfmbdamaa", sum := "91bcd26a3e89fc3bf4b10c177f0d178d9f1a4ec45013b5e7c8eec78bdadb2c53", func := "loupe/loupelaw17.KeysMatched", spec := "keysMatched", recurses := true, apart := false, narrowed := true }
def KeysMatchedUptoSaid : Prop := keysMatchedUptoRow.holds Try.pinned (OpenSpec.upto keysMatchedSpec)

/-- 'loupelaw17.KeysSelf', WHERE WHAT IT READS IS OF BULK AT MOST 1048576: true; the input reads as it did. -/
def keysSelfUptoRow : OpenClaim := { program := "ytfdlhakfmbdamaa", sum := "91bcd26a3e89fc3bf4b10c177f0d178d9f1a4ec45013b5e7c8eec78bdadb2c53", func := "loupe/loupelaw17.KeysSelf", spec := "keysSelf", recurses := true, apart := false, narrowed := true }
def KeysSelfUptoSaid : Prop := keysSelfUptoRow.holds Try.pinned (OpenSpec.upto keysSelfSpec)

end Rows
end Go.Proofs.Ytfdlhakfmbdamaa
