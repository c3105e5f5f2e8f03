/-
  No cell of these rows narrows 'for every input' (looked for: loops, veiled, ifaces, maps, wideKeys, modest, calm, conditions, laid).
  DERIVED. THE GIVEN ROWS OF THIS SEAT. 11 by the template 'for every input the law returns true; each argument reads behind the call as it read before'; 0 by the template 'total and deterministic' (their statements: YtpnnedkpbmilkaaTotals.lean).
  GIVEN WITH THE SEED: the statements are not yours to turn. If you find one false, say at which input.
  Laid BY PROGRAM, IN A SANDBOX (cutbox-rows.mjs): the forced cells as the released guide's own fill.sh prints them over the translation 4fdda6f05466fb5b… (all of the seat's roots in one cut). By AI agents, Wed Nov 11 2026. No macro, syntax, notation, axiom, sorry.
-/
import Derived.Test.YtpnnedkpbmilkaaChecked
import GoSem.Claim
import GoSem.ClaimJoined
import GoSem.ClaimMapViews
import Derived.JoinedTies
import Derived.KernelRfl
namespace Go.Proofs.Ytpnnedkpbmilkaa
/- THE CELL 'sum', in the pinned program and in every row, IS THE sha256 OF THE DUMP (.gsa) THAT YtpnnedkpbmilkaaProg.lean LOADS. Nothing in Lean hashes anything: it is a label: what it is worth is what the hold of that sum in a sandbox is worth. -/
noncomputable def Try.pinned : Pinned := { name := "ytpnnedkpbmilkaa", sum := "4fdda6f05466fb5b142d94de656650ab44d94449dfebdc89dd27b2191795e22f", checked := Try.checked }
namespace Rows
def none {H : Type} : Left H := { results := [], args := [] }

/-- 'loupelaw05.DfaNews': WHATEVER THE INPUT: true; the input reads as it did. -/
def dfaNewsSpec : ChangeSpec := { name := "dfaNews", fn := fun _ => fun
  | [d1, d2, d3] => { results := [.lit (.bool true)], args := [d1, d2, d3] }
  | _ => none }
def dfaNewsRow : OpenClaim := { program := "ytpnnedkpbmilkaa", sum := "4fdda6f05466fb5b142d94de656650ab44d94449dfebdc89dd27b2191795e22f", func := "loupe/loupelaw05.DfaNews", spec := "dfaNews", plainKeys := false, apart := false }
def DfaNewsSaid : Prop := dfaNewsRow.holds Try.pinned (OpenSpec.ofChange dfaNewsSpec)

/-- ITS FALSE NEIGHBOUR: 'it returns false'. Refute it at one input. -/
def dfaNewsWrong : ChangeSpec := { name := "dfaNews", fn := fun _ => fun
  | [d1, d2, d3] => { results := [.lit (.bool false)], args := [d1, d2, d3] }
  | _ => none }
def DfaNewsWrongFalsely : Prop := dfaNewsRow.holds Try.pinned (OpenSpec.ofChange dfaNewsWrong)

/-- 'loupelaw05.DfaCells': WHATEVER THE INPUT: true; the input reads as it did. -/
def dfaCellsSpec : ChangeSpec := { name := "dfaCells", fn := fun _ => fun
  | [d] => { results := [.lit (.bool true)], args := [d] }
  | _ => none }
def dfaCellsRow : OpenClaim := { program := "ytpnnedkpbmilkaa", sum := "4fdda6f05466fb5b142d94de656650ab44d94449dfebdc89dd27b2191795e22f", func := "loupe/loupelaw05.DfaCells", spec := "dfaCells", plainKeys := false, apart := false }
def DfaCellsSaid : Prop := dfaCellsRow.holds Try.pinned (OpenSpec.ofChange dfaCellsSpec)

/-- ITS FALSE NEIGHBOUR: 'it returns false'. Refute it at one input. -/
def dfaCellsWrong : ChangeSpec := { name := "dfaCells", fn := fun _ => fun
  | [d] => { results := [.lit (.bool false)], args := [d] }
  | _ => none }
def DfaCellsWrongFalsely : Prop := dfaCellsRow.holds Try.pinned (OpenSpec.ofChange dfaCellsWrong)

/-- 'loupelaw05.DfaTables': WHATEVER THE INPUT: true; the input reads as it did. -/
def dfaTablesSpec : ChangeSpec := { name := "dfaTables", fn := fun _ => fun
  | [d1, d2] => { results := [.lit (.bool true)], args := [d1, d2] }
  | _ => none }
def dfaTablesRow : OpenClaim := { program := "ytpnnedkpbmilkaa", sum := "4fdda6f05466fb5b142d94de656650ab44d94449dfebdc89dd27b2191795e22f", func := "loupe/loupelaw05.DfaTables", spec := "dfaTables", plainKeys := false, apart := false }
def DfaTablesSaid : Prop := dfaTablesRow.holds Try.pinned (OpenSpec.ofChange dfaTablesSpec)

/-- ITS FALSE NEIGHBOUR: 'it returns false'. Refute it at one input. -/
def dfaTablesWrong : ChangeSpec := { name := "dfaTables", fn := fun _ => fun
  | [d1, d2] => { results := [.lit (.bool false)], args := [d1, d2] }
  | _ => none }
def DfaTablesWrongFalsely : Prop := dfaTablesRow.holds Try.pinned (OpenSpec.ofChange dfaTablesWrong)

/-- 'loupelaw05.DfaLives': WHATEVER THE INPUT: true; the input reads as it did. -/
def dfaLivesSpec : ChangeSpec := { name := "dfaLives", fn := fun _ => fun
  | [d1, d2, d3] => { results := [.lit (.bool true)], args := [d1, d2, d3] }
  | _ => none }
def dfaLivesRow : OpenClaim := { program := "ytpnnedkpbmilkaa", sum := "4fdda6f05466fb5b142d94de656650ab44d94449dfebdc89dd27b2191795e22f", func := "loupe/loupelaw05.DfaLives", spec := "dfaLives", plainKeys := false, apart := false }
def DfaLivesSaid : Prop := dfaLivesRow.holds Try.pinned (OpenSpec.ofChange dfaLivesSpec)

/-- ITS FALSE NEIGHBOUR: 'it returns false'. Refute it at one input. -/
def dfaLivesWrong : ChangeSpec := { name := "dfaLives", fn := fun _ => fun
  | [d1, d2, d3] => { results := [.lit (.bool false)], args := [d1, d2, d3] }
  | _ => none }
def DfaLivesWrongFalsely : Prop := dfaLivesRow.holds Try.pinned (OpenSpec.ofChange dfaLivesWrong)

/-- 'loupelaw05.DfaNil': WHATEVER THE INPUT: true; the input reads as it did. -/
def dfaNilSpec : ChangeSpec := { name := "dfaNil", fn := fun _ => fun
  | [d1, d2, d3] => { results := [.lit (.bool true)], args := [d1, d2, d3] }
  | _ => none }
def dfaNilRow : OpenClaim := { program := "ytpnnedkpbmilkaa", sum := "4fdda6f05466fb5b142d94de656650ab44d94449dfebdc89dd27b2191795e22f", func := "loupe/loupelaw05.DfaNil", spec := "dfaNil", plainKeys := false, apart := false }
def DfaNilSaid : Prop := dfaNilRow.holds Try.pinned (OpenSpec.ofChange dfaNilSpec)

/-- ITS FALSE NEIGHBOUR: 'it returns false'. Refute it at one input. -/
def dfaNilWrong : ChangeSpec := { name := "dfaNil", fn := fun _ => fun
  | [d1, d2, d3] => { results := [.lit (.bool false)], args := [d1, d2, d3] }
  | _ => none }
def DfaNilWrongFalsely : Prop := dfaNilRow.holds Try.pinned (OpenSpec.ofChange dfaNilWrong)

/-- 'loupelaw10.SplitCuts': WHATEVER THE INPUT: true; the input reads as it did. -/
def splitCutsSpec : ChangeSpec := { name := "splitCuts", fn := fun _ => fun
  | [d1, d2, d3] => { results := [.lit (.bool true)], args := [d1, d2, d3] }
  | _ => none }
def splitCutsRow : OpenClaim := { program := "ytpnnedkpbmilkaa", sum := "4fdda6f05466fb5b142d94de656650ab44d94449dfebdc89dd27b2191795e22f", func := "loupe/loupelaw10.SplitCuts", spec := "splitCuts", plainKeys := false, apart := false }
def SplitCutsSaid : Prop := splitCutsRow.holds Try.pinned (OpenSpec.ofChange splitCutsSpec)

/-- ITS FALSE NEIGHBOUR: 'it returns false'. Refute it at one input. -/
def splitCutsWrong : ChangeSpec := { name := "splitCuts", fn := fun _ => fun
  | [d1, d2, d3] => { results := [.lit (.bool false)], args := [d1, d2, d3] }
  | _ => none }
def SplitCutsWrongFalsely : Prop := splitCutsRow.holds Try.pinned (OpenSpec.ofChange splitCutsWrong)

/-- 'loupelaw10.SplitChunks': WHATEVER THE INPUT: true; the input reads as it did. -/
def splitChunksSpec : ChangeSpec := { name := "splitChunks", fn := fun _ => fun
  | [d1, d2] => { results := [.lit (.bool true)], args := [d1, d2] }
  | _ => none }
def splitChunksRow : OpenClaim := { program := "ytpnnedkpbmilkaa", sum := "4fdda6f05466fb5b142d94de656650ab44d94449dfebdc89dd27b2191795e22f", func := "loupe/loupelaw10.SplitChunks", spec := "splitChunks", plainKeys := false, apart := false }
def SplitChunksSaid : Prop := splitChunksRow.holds Try.pinned (OpenSpec.ofChange splitChunksSpec)

/-- ITS FALSE NEIGHBOUR: 'it returns false'. Refute it at one input. -/
def splitChunksWrong : ChangeSpec := { name := "splitChunks", fn := fun _ => fun
  | [d1, d2] => { results := [.lit (.bool false)], args := [d1, d2] }
  | _ => none }
def SplitChunksWrongFalsely : Prop := splitChunksRow.holds Try.pinned (OpenSpec.ofChange splitChunksWrong)

/-- 'loupelaw10.SplitCutIsOne': WHATEVER THE INPUT: true; the input reads as it did. -/
def splitCutIsOneSpec : ChangeSpec := { name := "splitCutIsOne", fn := fun _ => fun
  | [d1, d2, d3] => { results := [.lit (.bool true)], args := [d1, d2, d3] }
  | _ => none }
def splitCutIsOneRow : OpenClaim := { program := "ytpnnedkpbmilkaa", sum := "4fdda6f05466fb5b142d94de656650ab44d94449dfebdc89dd27b2191795e22f", func := "loupe/loupelaw10.SplitCutIsOne", spec := "splitCutIsOne", unfollowed := true, recurses := true, plainKeys := false, apart := false }
def SplitCutIsOneSaid : Prop := splitCutIsOneRow.holds Try.pinned (OpenSpec.ofChange splitCutIsOneSpec)

/-- ITS FALSE NEIGHBOUR: 'it returns false'. Refute it at one input. -/
def splitCutIsOneWrong : ChangeSpec := { name := "splitCutIsOne", fn := fun _ => fun
  | [d1, d2, d3] => { results := [.lit (.bool false)], args := [d1, d2, d3] }
  | _ => none }
def SplitCutIsOneWrongFalsely : Prop := splitCutIsOneRow.holds Try.pinned (OpenSpec.ofChange splitCutIsOneWrong)

/-- 'loupelaw10.SplitPieces': WHATEVER THE INPUT: true; the input reads as it did. -/
def splitPiecesSpec : ChangeSpec := { name := "splitPieces", fn := fun _ => fun
  | [d1, d2] => { results := [.lit (.bool true)], args := [d1, d2] }
  | _ => none }
def splitPiecesRow : OpenClaim := { program := "ytpnnedkpbmilkaa", sum := "4fdda6f05466fb5b142d94de656650ab44d94449dfebdc89dd27b2191795e22f", func := "loupe/loupelaw10.SplitPieces", spec := "splitPieces", unfollowed := true, recurses := true, plainKeys := false, apart := false }
def SplitPiecesSaid : Prop := splitPiecesRow.holds Try.pinned (OpenSpec.ofChange splitPiecesSpec)

/-- ITS FALSE NEIGHBOUR: 'it returns false'. Refute it at one input. -/
def splitPiecesWrong : ChangeSpec := { name := "splitPieces", fn := fun _ => fun
  | [d1, d2] => { results := [.lit (.bool false)], args := [d1, d2] }
  | _ => none }
def SplitPiecesWrongFalsely : Prop := splitPiecesRow.holds Try.pinned (OpenSpec.ofChange splitPiecesWrong)

/-- 'loupelaw10.SplitJoined': WHATEVER THE INPUT: true; the input reads as it did. -/
def splitJoinedSpec : ChangeSpec := { name := "splitJoined", fn := fun _ => fun
  | [d1, d2, d3] => { results := [.lit (.bool true)], args := [d1, d2, d3] }
  | _ => none }
def splitJoinedRow : OpenClaim := { program := "ytpnnedkpbmilkaa", sum := "4fdda6f05466fb5b142d94de656650ab44d94449dfebdc89dd27b2191795e22f", func := "loupe/loupelaw10.SplitJoined", spec := "splitJoined", unfollowed := true, recurses := true, plainKeys := false, apart := false }
def SplitJoinedSaid : Prop := splitJoinedRow.holds Try.pinned (OpenSpec.ofChange splitJoinedSpec)

/-- ITS FALSE NEIGHBOUR: 'it returns false'. Refute it at one input. -/
def splitJoinedWrong : ChangeSpec := { name := "splitJoined", fn := fun _ => fun
  | [d1, d2, d3] => { results := [.lit (.bool false)], args := [d1, d2, d3] }
  | _ => none }
def SplitJoinedWrongFalsely : Prop := splitJoinedRow.holds Try.pinned (OpenSpec.ofChange splitJoinedWrong)

/-- 'loupelaw09.AmbigMeets': WHATEVER THE INPUT: true; the input reads as it did. -/
def ambigMeetsSpec : ChangeSpec := { name := "ambigMeets", fn := fun _ => fun
  | [d1, d2, d3] => { results := [.lit (.bool true)], args := [d1, d2, d3] }
  | _ => none }
def ambigMeetsRow : OpenClaim := { program := "ytpnnedkpbmilkaa", sum := "4fdda6f05466fb5b142d94de656650ab44d94449dfebdc89dd27b2191795e22f", func := "loupe/loupelaw09.AmbigMeets", spec := "ambigMeets", unfollowed := true, recurses := true, plainKeys := false, apart := false }
def AmbigMeetsSaid : Prop := ambigMeetsRow.holds Try.pinned (OpenSpec.ofChange ambigMeetsSpec)

/-- ITS FALSE NEIGHBOUR: 'it returns false'. Refute it at one input. -/
def ambigMeetsWrong : ChangeSpec := { name := "ambigMeets", fn := fun _ => fun
  | [d1, d2, d3] => { results := [.lit (.bool false)], args := [d1, d2, d3] }
  | _ => none }
def AmbigMeetsWrongFalsely : Prop := ambigMeetsRow.holds Try.pinned (OpenSpec.ofChange ambigMeetsWrong)

/- THE SECOND FORM. 'bulk': how many values and letters a reading holds, each counted each time it is reached (what is shared counts as often as it is met; a slice's spare places count too). A statement '..UptoSaid' is the law's where the arguments, and the package variables that the reading takes, are together of bulk at most 1048576: NARROWER than '..Said'. Prove '..Said' where nothing that the law and all that it calls make is longer than what came in: it says more and counts as full. Else prove '..UptoSaid'. A law counts once. -/
mutual
def uptoBulk {H : Type} : DataW H → Nat
  | .lit (.string bytes) => bytes.length + 1
  | .lit _ => 1
  | .nil => 1
  | .ptr d => uptoBulk d + 1
  | .slice elems spare => uptoBulkAll elems + uptoBulkAll spare + 1
  | .agg parts => uptoBulkAll parts + 1
  | .iface _ d => uptoBulk d + 1
  | .map entries => uptoBulkEntries entries + 1
  | .held _ => 1
def uptoBulkAll {H : Type} : List (DataW H) → Nat
  | [] => 0
  | d :: r => uptoBulk d + uptoBulkAll r
def uptoBulkEntries {H : Type} : List (Lit × DataW H) → Nat
  | [] => 0
  | x :: r => uptoBulkEntry x + uptoBulkEntries r
def uptoBulkEntry {H : Type} : Lit × DataW H → Nat
  | (.string bytes, d) => bytes.length + uptoBulk d + 1
  | (_, d) => uptoBulk d + 1
 end
def uptoSmall : (H : Type) → List (DataW H) → Bool := fun _ ds => decide (uptoBulkAll ds ≤ 1048576)
def OpenSpec.upto (s : _root_.Go.ChangeSpec) : _root_.Go.OpenSpec := { _root_.Go.OpenSpec.ofChange s with cond := some uptoSmall }

/-- 'loupelaw05.DfaNews', WHERE WHAT IT READS IS OF BULK AT MOST 1048576: true; the input reads as it did. -/
def dfaNewsUptoRow : OpenClaim := { program := "ytpnnedkpbmilkaa", sum := "4fdda6f05466fb5b142d94de656650ab44d94449dfebdc89dd27b2191795e22f", func := "loupe/loupelaw05.DfaNews", spec := "dfaNews", plainKeys := false, apart := false, narrowed := true }
def DfaNewsUptoSaid : Prop := dfaNewsUptoRow.holds Try.pinned (OpenSpec.upto dfaNewsSpec)

/-- 'loupelaw05.DfaCells', WHERE WHAT IT READS IS OF BULK AT MOST 1048576: true; the input reads as it did. -/
def dfaCellsUptoRow : OpenClaim := { program := "ytpnnedkpbmilkaa", sum := "4fdda6f05466fb5b142d94de656650ab44d94449dfebdc89dd27b2191795e22f", func := "loupe/loupelaw05.DfaCells", spec := "dfaCells", plainKeys := false, apart := false, narrowed := true }
def DfaCellsUptoSaid : Prop := dfaCellsUptoRow.holds Try.pinned (OpenSpec.upto dfaCellsSpec)

/-- 'loupelaw05.DfaTables', WHERE WHAT IT READS IS OF BULK AT MOST 1048576: true; the input reads as it did. -/
def dfaTablesUptoRow : OpenClaim := { program := "ytpnnedkpbmilkaa", sum := "4fdda6f05466fb5b142d94de656650ab44d94449dfebdc89dd27b2191795e22f", func := "loupe/loupelaw05.DfaTables", spec := "dfaTables", plainKeys := false, apart := false, narrowed := true }
def DfaTablesUptoSaid : Prop := dfaTablesUptoRow.holds Try.pinned (OpenSpec.upto dfaTablesSpec)

/-- 'loupelaw05.DfaLives', WHERE WHAT IT READS IS OF BULK AT MOST 1048576: true; the input reads as it did. -/
def dfaLivesUptoRow : OpenClaim := { program := "ytpnnedkpbmilkaa", sum := "4fdda6f05466fb5b142d94de656650ab44d94449dfebdc89dd27b2191795e22f", func := "loupe/loupelaw05.DfaLives", spec := "dfaLives", plainKeys := false, apart := false, narrowed := true }
def DfaLivesUptoSaid : Prop := dfaLivesUptoRow.holds Try.pinned (OpenSpec.upto dfaLivesSpec)

/-- 'loupelaw05.DfaNil', WHERE WHAT IT READS IS OF BULK AT MOST 1048576: true; the input reads as it did. -/
def dfaNilUptoRow : OpenClaim := { program := "ytpnnedkpbmilkaa", sum := "4fdda6f05466fb5b142d94de656650ab44d94449dfebdc89dd27b2191795e22f", func := "loupe/loupelaw05.DfaNil", spec := "dfaNil", plainKeys := false, apart := false, narrowed := true }
def DfaNilUptoSaid : Prop := dfaNilUptoRow.holds Try.pinned (OpenSpec.upto dfaNilSpec)

/-- 'loupelaw10.SplitCuts', WHERE WHAT IT READS IS OF BULK AT MOST 1048576: true; the input reads as it did. -/
def splitCutsUptoRow : OpenClaim := { program := "ytpnnedkpbmilkaa", sum := "4fdda6f05466fb5b142d94de656650ab44d94449dfebdc89dd27b2191795e22f", func := "loupe/loupelaw10.SplitCuts", spec := "splitCuts", plainKeys := false, apart := false, narrowed := true }
def SplitCutsUptoSaid : Prop := splitCutsUptoRow.holds Try.pinned (OpenSpec.upto splitCutsSpec)

/-- 'loupelaw10.SplitChunks', WHERE WHAT IT READS IS OF BULK AT MOST 1048576: true; the input reads as it did. -/
def splitChunksUptoRow : OpenClaim := { program := "ytpnnedkpbmilkaa", sum := "4fdda6f05466fb5b142d94de656650ab44d94449dfebdc89dd27b2191795e22f", func := "loupe/loupelaw10.SplitChunks", spec := "splitChunks", plainKeys := false, apart := false, narrowed := true }
def SplitChunksUptoSaid : Prop := splitChunksUptoRow.holds Try.pinned (OpenSpec.upto splitChunksSpec)

/-- 'loupelaw10.SplitCutIsOne', WHERE WHAT IT READS IS OF BULK AT MOST 1048576: true; the input reads as it did. -/
def splitCutIsOneUptoRow : OpenClaim := { program := "ytpnnedkpbmilkaa", sum := "4fdda6f05466fb5b142d94de656650ab44d94449dfebdc89dd27b2191795e22f", func := "loupe/loupelaw10.SplitCutIsOne", spec := "splitCutIsOne", unfollowed := true, recurses := true, plainKeys := false, apart := false, narrowed := true }
def SplitCutIsOneUptoSaid : Prop := splitCutIsOneUptoRow.holds Try.pinned (OpenSpec.upto splitCutIsOneSpec)

/-- 'loupelaw10.SplitPieces', WHERE WHAT IT READS IS OF BULK AT MOST 1048576: true; the input reads as it did. -/
def splitPiecesUptoRow : OpenClaim := { program := "ytpnnedkpbmilkaa", sum := "4fdda6f05466fb5b142d94de656650ab44d94449dfebdc89dd27b2191795e22f", func := "loupe/loupelaw10.SplitPieces", spec := "splitPieces", unfollowed := true, recurses := true, plainKeys := false, apart := false, narrowed := true }
def SplitPiecesUptoSaid : Prop := splitPiecesUptoRow.holds Try.pinned (OpenSpec.upto splitPiecesSpec)

/-- 'loupelaw10.SplitJoined', WHERE WHAT IT READS IS OF BULK AT MOST 1048576: true; the input reads as it did. -/
def splitJoinedUptoRow : OpenClaim := { program := "ytpnnedkpbmilkaa", sum := "4fdda6f05466fb5b142d94de656650ab44d94449dfebdc89dd27b2191795e22f", func := "loupe/loupelaw10.SplitJoined", spec := "splitJoined", unfollowed := true, recurses := true, plainKeys := false, apart := false, narrowed := true }
def SplitJoinedUptoSaid : Prop := splitJoinedUptoRow.holds Try.pinned (OpenSpec.upto splitJoinedSpec)

/-- 'loupelaw09.AmbigMeets', WHERE WHAT IT READS IS OF BULK AT MOST 1048576: true; the input reads as it did. -/
def ambigMeetsUptoRow : OpenClaim := { program := "ytpnnedkpbmilkaa", sum := "4fdda6f05466fb5b142d94de656650ab44d94449dfebdc89dd27b2191795e22f", func := "loupe/loupelaw09.AmbigMeets", spec := "ambigMeets", unfollowed := true, recurses := true, plainKeys := false, apart := false, narrowed := true }
def AmbigMeetsUptoSaid : Prop := ambigMeetsUptoRow.holds Try.pinned (OpenSpec.upto ambigMeetsSpec)

end Rows
end Go.Proofs.Ytpnnedkpbmilkaa
