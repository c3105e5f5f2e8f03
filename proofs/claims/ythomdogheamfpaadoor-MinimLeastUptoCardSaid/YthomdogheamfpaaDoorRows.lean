/-
  NARROWER THAN 'FOR EVERY INPUT', by the rows' own cells (each row's printed sentence says how): MinimCanons: laid · MinimTables: laid · MinimOneTable: laid · MinimDiffers: laid · MinimWitness: laid · MinimLeast: laid · DfaNets: laid · DfaBudgets: laid · DfaOrder: laid · DfaSets: laid.
  DERIVED. THE GIVEN ROWS OF THIS SEAT. 10 by the template 'for every input the law returns true; each argument reads behind the call as it read before'; 0 by the template 'total and deterministic' (their statements: YthomdogheamfpaaDoorTotals.lean).
  GIVEN WITH THE SEED: the statements are not yours to turn. If you find one false, say at which input.
  Laid BY PROGRAM, IN A SANDBOX (cutbox-rows.mjs): the forced cells as the released guide's own fill.sh prints them over the translation c254adab555d57a6… (all of the seat's roots in one cut). By AI agents, Wed Nov 11 2026. No macro, syntax, notation, axiom, sorry.
-/
import Derived.Test.YthomdogheamfpaaDoorChecked
import GoSem.Claim
import GoSem.ClaimJoined
import GoSem.ClaimMapViews
import Derived.JoinedTies
import Derived.KernelRfl
namespace Go.Proofs.YthomdogheamfpaaDoor
/- THE CELL 'sum', in the pinned program and in every row, IS THE sha256 OF THE DUMP (.gsa) THAT YthomdogheamfpaaDoorProg.lean LOADS. Nothing in Lean hashes anything: it is a label: what it is worth is what the hold of that sum in a sandbox is worth. -/
noncomputable def Tryd.pinned : Pinned := { name := "ythomdogheamfpaadoor", sum := "c254adab555d57a6b88edb54c7e9221834931dff0e28f169d297d34ff846cad5", checked := Tryd.checked }
namespace Rows
def none {H : Type} : Left H := { results := [], args := [] }

/- WHAT THE LISTED PACKAGE-LEVEL VARIABLES READ AS WHEN THE CALL BEGINS. Each datum BY PROGRAM (the guide's laid-datum.mjs) off the statement by which the dump's own 'gosem.cut.vars' lays the variable. In a bare row this is a premise. The card (YthomdogheamfpaaDoorCards.lean) ties it to the program's text. -/
def laid_math_bits_deBruijn32tab {H : Type} : DataW H := .agg [.lit (.int .u8 0), .lit (.int .u8 1), .lit (.int .u8 28), .lit (.int .u8 2), .lit (.int .u8 29), .lit (.int .u8 14), .lit (.int .u8 24), .lit (.int .u8 3), .lit (.int .u8 30), .lit (.int .u8 22), .lit (.int .u8 20), .lit (.int .u8 15), .lit (.int .u8 25), .lit (.int .u8 17), .lit (.int .u8 4), .lit (.int .u8 8), .lit (.int .u8 31), .lit (.int .u8 27), .lit (.int .u8 13), .lit (.int .u8 23), .lit (.int .u8 21), .lit (.int .u8 19), .lit (.int .u8 16), .lit (.int .u8 7), .lit (.int .u8 26), .lit (.int .u8 12), .lit (.int .u8 18), .lit (.int .u8 6), .lit (.int .u8 11), .lit (.int .u8 5), .lit (.int .u8 10), .lit (.int .u8 9)]
def laid_math_bits_deBruijn64tab {H : Type} : DataW H := .agg [.lit (.int .u8 0), .lit (.int .u8 1), .lit (.int .u8 56), .lit (.int .u8 2), .lit (.int .u8 57), .lit (.int .u8 49), .lit (.int .u8 28), .lit (.int .u8 3), .lit (.int .u8 61), .lit (.int .u8 58), .lit (.int .u8 42), .lit (.int .u8 50), .lit (.int .u8 38), .lit (.int .u8 29), .lit (.int .u8 17), .lit (.int .u8 4), .lit (.int .u8 62), .lit (.int .u8 47), .lit (.int .u8 59), .lit (.int .u8 36), .lit (.int .u8 45), .lit (.int .u8 43), .lit (.int .u8 51), .lit (.int .u8 22), .lit (.int .u8 53), .lit (.int .u8 39), .lit (.int .u8 33), .lit (.int .u8 30), .lit (.int .u8 24), .lit (.int .u8 18), .lit (.int .u8 12), .lit (.int .u8 5), .lit (.int .u8 63), .lit (.int .u8 55), .lit (.int .u8 48), .lit (.int .u8 27), .lit (.int .u8 60), .lit (.int .u8 41), .lit (.int .u8 37), .lit (.int .u8 16), .lit (.int .u8 46), .lit (.int .u8 35), .lit (.int .u8 44), .lit (.int .u8 21), .lit (.int .u8 52), .lit (.int .u8 32), .lit (.int .u8 23), .lit (.int .u8 11), .lit (.int .u8 54), .lit (.int .u8 26), .lit (.int .u8 40), .lit (.int .u8 15), .lit (.int .u8 34), .lit (.int .u8 20), .lit (.int .u8 31), .lit (.int .u8 10), .lit (.int .u8 25), .lit (.int .u8 14), .lit (.int .u8 19), .lit (.int .u8 9), .lit (.int .u8 13), .lit (.int .u8 8), .lit (.int .u8 7), .lit (.int .u8 6)]
def laid_internal_strconv_uint64pow10 {H : Type} : DataW H := .agg [.lit (.int .u64 1), .lit (.int .u64 10), .lit (.int .u64 100), .lit (.int .u64 1000), .lit (.int .u64 10000), .lit (.int .u64 100000), .lit (.int .u64 1000000), .lit (.int .u64 10000000), .lit (.int .u64 100000000), .lit (.int .u64 1000000000), .lit (.int .u64 10000000000), .lit (.int .u64 100000000000), .lit (.int .u64 1000000000000), .lit (.int .u64 10000000000000), .lit (.int .u64 100000000000000), .lit (.int .u64 1000000000000000), .lit (.int .u64 10000000000000000), .lit (.int .u64 100000000000000000), .lit (.int .u64 1000000000000000000), .lit (.int .u64 10000000000000000000)]
def laid_loupe_class_escapes {H : Type} : DataW H := .agg [.agg [.lit (.int .u8 110), .lit (.int .u8 10)], .agg [.lit (.int .u8 114), .lit (.int .u8 13)], .agg [.lit (.int .u8 116), .lit (.int .u8 9)]]

/-- 'loupelaw07.MinimCanons': WHATEVER THE INPUT: true; the input reads as it did. -/
def minimCanonsSpec : ChangeSpec := { name := "minimCanons", fn := fun _ => fun
  | [d] => { results := [.lit (.bool true)], args := [d] }
  | _ => none }
def minimCanonsRow : OpenClaim := { program := "ythomdogheamfpaadoor", sum := "c254adab555d57a6b88edb54c7e9221834931dff0e28f169d297d34ff846cad5", func := "loupe/loupelaw07.MinimCanons", spec := "minimCanons", inPlace := ["internal/bytealg.IndexByteString", "internal/abi.NoEscape"], unfollowed := true, recurses := true, named := ["internal/strconv.uint64pow10", "math/bits.deBruijn32tab", "math/bits.deBruijn64tab", "loupe/class.escapes"], plainKeys := false, apart := false, laid := [("math/bits.deBruijn32tab", laid_math_bits_deBruijn32tab), ("math/bits.deBruijn64tab", laid_math_bits_deBruijn64tab), ("internal/strconv.uint64pow10", laid_internal_strconv_uint64pow10), ("loupe/class.escapes", laid_loupe_class_escapes)] }
def MinimCanonsSaid : Prop := minimCanonsRow.holds Tryd.pinned (OpenSpec.ofChange minimCanonsSpec)

/-- ITS FALSE NEIGHBOUR: 'it returns false'. Refute it at one input. -/
def minimCanonsWrong : ChangeSpec := { name := "minimCanons", fn := fun _ => fun
  | [d] => { results := [.lit (.bool false)], args := [d] }
  | _ => none }
def MinimCanonsWrongFalsely : Prop := minimCanonsRow.holds Tryd.pinned (OpenSpec.ofChange minimCanonsWrong)

/-- 'loupelaw07.MinimTables': WHATEVER THE INPUT: true; the input reads as it did. -/
def minimTablesSpec : ChangeSpec := { name := "minimTables", fn := fun _ => fun
  | [d] => { results := [.lit (.bool true)], args := [d] }
  | _ => none }
def minimTablesRow : OpenClaim := { program := "ythomdogheamfpaadoor", sum := "c254adab555d57a6b88edb54c7e9221834931dff0e28f169d297d34ff846cad5", func := "loupe/loupelaw07.MinimTables", spec := "minimTables", inPlace := ["internal/bytealg.IndexByteString", "internal/abi.NoEscape"], unfollowed := true, recurses := true, named := ["internal/strconv.uint64pow10", "math/bits.deBruijn32tab", "math/bits.deBruijn64tab", "loupe/class.escapes"], plainKeys := false, apart := false, laid := [("math/bits.deBruijn32tab", laid_math_bits_deBruijn32tab), ("math/bits.deBruijn64tab", laid_math_bits_deBruijn64tab), ("internal/strconv.uint64pow10", laid_internal_strconv_uint64pow10), ("loupe/class.escapes", laid_loupe_class_escapes)] }
def MinimTablesSaid : Prop := minimTablesRow.holds Tryd.pinned (OpenSpec.ofChange minimTablesSpec)

/-- ITS FALSE NEIGHBOUR: 'it returns false'. Refute it at one input. -/
def minimTablesWrong : ChangeSpec := { name := "minimTables", fn := fun _ => fun
  | [d] => { results := [.lit (.bool false)], args := [d] }
  | _ => none }
def MinimTablesWrongFalsely : Prop := minimTablesRow.holds Tryd.pinned (OpenSpec.ofChange minimTablesWrong)

/-- 'loupelaw07.MinimOneTable': WHATEVER THE INPUT: true; the input reads as it did. -/
def minimOneTableSpec : ChangeSpec := { name := "minimOneTable", fn := fun _ => fun
  | [d1, d2] => { results := [.lit (.bool true)], args := [d1, d2] }
  | _ => none }
def minimOneTableRow : OpenClaim := { program := "ythomdogheamfpaadoor", sum := "c254adab555d57a6b88edb54c7e9221834931dff0e28f169d297d34ff846cad5", func := "loupe/loupelaw07.MinimOneTable", spec := "minimOneTable", inPlace := ["internal/bytealg.IndexByteString", "internal/abi.NoEscape"], unfollowed := true, recurses := true, named := ["internal/strconv.uint64pow10", "math/bits.deBruijn32tab", "math/bits.deBruijn64tab", "loupe/class.escapes"], plainKeys := false, apart := false, laid := [("math/bits.deBruijn32tab", laid_math_bits_deBruijn32tab), ("math/bits.deBruijn64tab", laid_math_bits_deBruijn64tab), ("internal/strconv.uint64pow10", laid_internal_strconv_uint64pow10), ("loupe/class.escapes", laid_loupe_class_escapes)] }
def MinimOneTableSaid : Prop := minimOneTableRow.holds Tryd.pinned (OpenSpec.ofChange minimOneTableSpec)

/-- ITS FALSE NEIGHBOUR: 'it returns false'. Refute it at one input. -/
def minimOneTableWrong : ChangeSpec := { name := "minimOneTable", fn := fun _ => fun
  | [d1, d2] => { results := [.lit (.bool false)], args := [d1, d2] }
  | _ => none }
def MinimOneTableWrongFalsely : Prop := minimOneTableRow.holds Tryd.pinned (OpenSpec.ofChange minimOneTableWrong)

/-- 'loupelaw07.MinimDiffers': WHATEVER THE INPUT: true; the input reads as it did. -/
def minimDiffersSpec : ChangeSpec := { name := "minimDiffers", fn := fun _ => fun
  | [d1, d2] => { results := [.lit (.bool true)], args := [d1, d2] }
  | _ => none }
def minimDiffersRow : OpenClaim := { program := "ythomdogheamfpaadoor", sum := "c254adab555d57a6b88edb54c7e9221834931dff0e28f169d297d34ff846cad5", func := "loupe/loupelaw07.MinimDiffers", spec := "minimDiffers", inPlace := ["internal/bytealg.IndexByteString", "internal/abi.NoEscape"], unfollowed := true, recurses := true, named := ["internal/strconv.uint64pow10", "math/bits.deBruijn32tab", "math/bits.deBruijn64tab", "loupe/class.escapes"], plainKeys := false, apart := false, laid := [("math/bits.deBruijn32tab", laid_math_bits_deBruijn32tab), ("math/bits.deBruijn64tab", laid_math_bits_deBruijn64tab), ("internal/strconv.uint64pow10", laid_internal_strconv_uint64pow10), ("loupe/class.escapes", laid_loupe_class_escapes)] }
def MinimDiffersSaid : Prop := minimDiffersRow.holds Tryd.pinned (OpenSpec.ofChange minimDiffersSpec)

/-- ITS FALSE NEIGHBOUR: 'it returns false'. Refute it at one input. -/
def minimDiffersWrong : ChangeSpec := { name := "minimDiffers", fn := fun _ => fun
  | [d1, d2] => { results := [.lit (.bool false)], args := [d1, d2] }
  | _ => none }
def MinimDiffersWrongFalsely : Prop := minimDiffersRow.holds Tryd.pinned (OpenSpec.ofChange minimDiffersWrong)

/-- 'loupelaw07.MinimWitness': WHATEVER THE INPUT: true; the input reads as it did. -/
def minimWitnessSpec : ChangeSpec := { name := "minimWitness", fn := fun _ => fun
  | [d1, d2, d3] => { results := [.lit (.bool true)], args := [d1, d2, d3] }
  | _ => none }
def minimWitnessRow : OpenClaim := { program := "ythomdogheamfpaadoor", sum := "c254adab555d57a6b88edb54c7e9221834931dff0e28f169d297d34ff846cad5", func := "loupe/loupelaw07.MinimWitness", spec := "minimWitness", inPlace := ["internal/bytealg.IndexByteString", "internal/abi.NoEscape"], unfollowed := true, recurses := true, named := ["internal/strconv.uint64pow10", "math/bits.deBruijn32tab", "math/bits.deBruijn64tab", "loupe/class.escapes"], plainKeys := false, apart := false, laid := [("math/bits.deBruijn32tab", laid_math_bits_deBruijn32tab), ("math/bits.deBruijn64tab", laid_math_bits_deBruijn64tab), ("internal/strconv.uint64pow10", laid_internal_strconv_uint64pow10), ("loupe/class.escapes", laid_loupe_class_escapes)] }
def MinimWitnessSaid : Prop := minimWitnessRow.holds Tryd.pinned (OpenSpec.ofChange minimWitnessSpec)

/-- ITS FALSE NEIGHBOUR: 'it returns false'. Refute it at one input. -/
def minimWitnessWrong : ChangeSpec := { name := "minimWitness", fn := fun _ => fun
  | [d1, d2, d3] => { results := [.lit (.bool false)], args := [d1, d2, d3] }
  | _ => none }
def MinimWitnessWrongFalsely : Prop := minimWitnessRow.holds Tryd.pinned (OpenSpec.ofChange minimWitnessWrong)

/-- 'loupelaw07.MinimLeast': WHATEVER THE INPUT: true; the input reads as it did. -/
def minimLeastSpec : ChangeSpec := { name := "minimLeast", fn := fun _ => fun
  | [d1, d2] => { results := [.lit (.bool true)], args := [d1, d2] }
  | _ => none }
def minimLeastRow : OpenClaim := { program := "ythomdogheamfpaadoor", sum := "c254adab555d57a6b88edb54c7e9221834931dff0e28f169d297d34ff846cad5", func := "loupe/loupelaw07.MinimLeast", spec := "minimLeast", inPlace := ["internal/bytealg.IndexByteString", "internal/abi.NoEscape"], unfollowed := true, recurses := true, named := ["internal/strconv.uint64pow10", "math/bits.deBruijn32tab", "math/bits.deBruijn64tab", "loupe/class.escapes"], plainKeys := false, apart := false, laid := [("math/bits.deBruijn32tab", laid_math_bits_deBruijn32tab), ("math/bits.deBruijn64tab", laid_math_bits_deBruijn64tab), ("internal/strconv.uint64pow10", laid_internal_strconv_uint64pow10), ("loupe/class.escapes", laid_loupe_class_escapes)] }
def MinimLeastSaid : Prop := minimLeastRow.holds Tryd.pinned (OpenSpec.ofChange minimLeastSpec)

/-- ITS FALSE NEIGHBOUR: 'it returns false'. Refute it at one input. -/
def minimLeastWrong : ChangeSpec := { name := "minimLeast", fn := fun _ => fun
  | [d1, d2] => { results := [.lit (.bool false)], args := [d1, d2] }
  | _ => none }
def MinimLeastWrongFalsely : Prop := minimLeastRow.holds Tryd.pinned (OpenSpec.ofChange minimLeastWrong)

/-- 'loupelaw05.DfaNets': WHATEVER THE INPUT: true; the input reads as it did. -/
def dfaNetsSpec : ChangeSpec := { name := "dfaNets", fn := fun _ => fun
  | [d1, d2] => { results := [.lit (.bool true)], args := [d1, d2] }
  | _ => none }
def dfaNetsRow : OpenClaim := { program := "ythomdogheamfpaadoor", sum := "c254adab555d57a6b88edb54c7e9221834931dff0e28f169d297d34ff846cad5", func := "loupe/loupelaw05.DfaNets", spec := "dfaNets", unfollowed := true, recurses := true, named := ["internal/strconv.uint64pow10", "math/bits.deBruijn32tab", "math/bits.deBruijn64tab"], plainKeys := false, apart := false, laid := [("math/bits.deBruijn32tab", laid_math_bits_deBruijn32tab), ("math/bits.deBruijn64tab", laid_math_bits_deBruijn64tab), ("internal/strconv.uint64pow10", laid_internal_strconv_uint64pow10)] }
def DfaNetsSaid : Prop := dfaNetsRow.holds Tryd.pinned (OpenSpec.ofChange dfaNetsSpec)

/-- ITS FALSE NEIGHBOUR: 'it returns false'. Refute it at one input. -/
def dfaNetsWrong : ChangeSpec := { name := "dfaNets", fn := fun _ => fun
  | [d1, d2] => { results := [.lit (.bool false)], args := [d1, d2] }
  | _ => none }
def DfaNetsWrongFalsely : Prop := dfaNetsRow.holds Tryd.pinned (OpenSpec.ofChange dfaNetsWrong)

/-- 'loupelaw05.DfaBudgets': WHATEVER THE INPUT: true; the input reads as it did. -/
def dfaBudgetsSpec : ChangeSpec := { name := "dfaBudgets", fn := fun _ => fun
  | [d1, d2] => { results := [.lit (.bool true)], args := [d1, d2] }
  | _ => none }
def dfaBudgetsRow : OpenClaim := { program := "ythomdogheamfpaadoor", sum := "c254adab555d57a6b88edb54c7e9221834931dff0e28f169d297d34ff846cad5", func := "loupe/loupelaw05.DfaBudgets", spec := "dfaBudgets", unfollowed := true, recurses := true, named := ["internal/strconv.uint64pow10", "math/bits.deBruijn32tab", "math/bits.deBruijn64tab"], plainKeys := false, apart := false, laid := [("math/bits.deBruijn32tab", laid_math_bits_deBruijn32tab), ("math/bits.deBruijn64tab", laid_math_bits_deBruijn64tab), ("internal/strconv.uint64pow10", laid_internal_strconv_uint64pow10)] }
def DfaBudgetsSaid : Prop := dfaBudgetsRow.holds Tryd.pinned (OpenSpec.ofChange dfaBudgetsSpec)

/-- ITS FALSE NEIGHBOUR: 'it returns false'. Refute it at one input. -/
def dfaBudgetsWrong : ChangeSpec := { name := "dfaBudgets", fn := fun _ => fun
  | [d1, d2] => { results := [.lit (.bool false)], args := [d1, d2] }
  | _ => none }
def DfaBudgetsWrongFalsely : Prop := dfaBudgetsRow.holds Tryd.pinned (OpenSpec.ofChange dfaBudgetsWrong)

/-- 'loupelaw05.DfaOrder': WHATEVER THE INPUT: true; the input reads as it did. -/
def dfaOrderSpec : ChangeSpec := { name := "dfaOrder", fn := fun _ => fun
  | [d] => { results := [.lit (.bool true)], args := [d] }
  | _ => none }
def dfaOrderRow : OpenClaim := { program := "ythomdogheamfpaadoor", sum := "c254adab555d57a6b88edb54c7e9221834931dff0e28f169d297d34ff846cad5", func := "loupe/loupelaw05.DfaOrder", spec := "dfaOrder", unfollowed := true, recurses := true, named := ["internal/strconv.uint64pow10", "math/bits.deBruijn32tab", "math/bits.deBruijn64tab"], plainKeys := false, apart := false, laid := [("math/bits.deBruijn32tab", laid_math_bits_deBruijn32tab), ("math/bits.deBruijn64tab", laid_math_bits_deBruijn64tab), ("internal/strconv.uint64pow10", laid_internal_strconv_uint64pow10)] }
def DfaOrderSaid : Prop := dfaOrderRow.holds Tryd.pinned (OpenSpec.ofChange dfaOrderSpec)

/-- ITS FALSE NEIGHBOUR: 'it returns false'. Refute it at one input. -/
def dfaOrderWrong : ChangeSpec := { name := "dfaOrder", fn := fun _ => fun
  | [d] => { results := [.lit (.bool false)], args := [d] }
  | _ => none }
def DfaOrderWrongFalsely : Prop := dfaOrderRow.holds Tryd.pinned (OpenSpec.ofChange dfaOrderWrong)

/-- 'loupelaw05.DfaSets': WHATEVER THE INPUT: true; the input reads as it did. -/
def dfaSetsSpec : ChangeSpec := { name := "dfaSets", fn := fun _ => fun
  | [d1, d2, d3] => { results := [.lit (.bool true)], args := [d1, d2, d3] }
  | _ => none }
def dfaSetsRow : OpenClaim := { program := "ythomdogheamfpaadoor", sum := "c254adab555d57a6b88edb54c7e9221834931dff0e28f169d297d34ff846cad5", func := "loupe/loupelaw05.DfaSets", spec := "dfaSets", unfollowed := true, recurses := true, named := ["internal/strconv.uint64pow10", "math/bits.deBruijn32tab", "math/bits.deBruijn64tab"], plainKeys := false, apart := false, laid := [("math/bits.deBruijn32tab", laid_math_bits_deBruijn32tab), ("math/bits.deBruijn64tab", laid_math_bits_deBruijn64tab), ("internal/strconv.uint64pow10", laid_internal_strconv_uint64pow10)] }
def DfaSetsSaid : Prop := dfaSetsRow.holds Tryd.pinned (OpenSpec.ofChange dfaSetsSpec)

/-- ITS FALSE NEIGHBOUR: 'it returns false'. Refute it at one input. -/
def dfaSetsWrong : ChangeSpec := { name := "dfaSets", fn := fun _ => fun
  | [d1, d2, d3] => { results := [.lit (.bool false)], args := [d1, d2, d3] }
  | _ => none }
def DfaSetsWrongFalsely : Prop := dfaSetsRow.holds Tryd.pinned (OpenSpec.ofChange dfaSetsWrong)

/- THE SECOND FORM. 'bulk': how many values and letters a reading holds, each counted each time it is reached (what is shared counts as often as it is met; a slice's spare places count too). A statement '..UptoSaid' is the law's where the arguments, and the package variables that the reading takes, are together of bulk at most 1048576: NARROWER than '..Said'. Prove '..Said' where nothing that the law and all that it calls make is longer than what came in: it says more and counts as full. Else prove '..UptoSaid'. A law counts once. -/
mutual
def uptoBulk {H : Type} : DataW H → Nat
  | .lit (.string bytes) => bytes.length + 1
  | .lit _ => 1
  | .nil => 1
  | .ptr d => uptoBulk d + 1
  | .slice elems spare => uptoBulkAll elems + uptoBulkAll spare + 1
  | .agg parts => uptoBulkAll parts + 1
  | .iface _ d => uptoBulk d + 1
  | .map entries => uptoBulkEntries entries + 1
  | .held _ => 1
def uptoBulkAll {H : Type} : List (DataW H) → Nat
  | [] => 0
  | d :: r => uptoBulk d + uptoBulkAll r
def uptoBulkEntries {H : Type} : List (Lit × DataW H) → Nat
  | [] => 0
  | x :: r => uptoBulkEntry x + uptoBulkEntries r
def uptoBulkEntry {H : Type} : Lit × DataW H → Nat
  | (.string bytes, d) => bytes.length + uptoBulk d + 1
  | (_, d) => uptoBulk d + 1
 end
def uptoSmall : (H : Type) → List (DataW H) → Bool := fun _ ds => decide (uptoBulkAll ds ≤ 1048576)
def OpenSpec.upto (s : _root_.Go.ChangeSpec) : _root_.Go.OpenSpec := { _root_.Go.OpenSpec.ofChange s with cond := some uptoSmall }

/-- 'loupelaw07.MinimCanons', WHERE WHAT IT READS IS OF BULK AT MOST 1048576: true; the input reads as it did. -/
def minimCanonsUptoRow : OpenClaim := { program := "ythomdogheamfpaadoor", sum := "c254adab555d57a6b88edb54c7e9221834931dff0e28f169d297d34ff846cad5", func := "loupe/loupelaw07.MinimCanons", spec := "minimCanons", inPlace := ["internal/bytealg.IndexByteString", "internal/abi.NoEscape"], unfollowed := true, recurses := true, named := ["internal/strconv.uint64pow10", "math/bits.deBruijn32tab", "math/bits.deBruijn64tab", "loupe/class.escapes"], plainKeys := false, apart := false, laid := [("math/bits.deBruijn32tab", laid_math_bits_deBruijn32tab), ("math/bits.deBruijn64tab", laid_math_bits_deBruijn64tab), ("internal/strconv.uint64pow10", laid_internal_strconv_uint64pow10), ("loupe/class.escapes", laid_loupe_class_escapes)], narrowed := true }
def MinimCanonsUptoSaid : Prop := minimCanonsUptoRow.holds Tryd.pinned (OpenSpec.upto minimCanonsSpec)

/-- 'loupelaw07.MinimTables', WHERE WHAT IT READS IS OF BULK AT MOST 1048576: true; the input reads as it did. -/
def minimTablesUptoRow : OpenClaim := { program := "ythomdogheamfpaadoor", sum := "c254adab555d57a6b88edb54c7e9221834931dff0e28f169d297d34ff846cad5", func := "loupe/loupelaw07.MinimTables", spec := "minimTables", inPlace := ["internal/bytealg.IndexByteString", "internal/abi.NoEscape"], unfollowed := true, recurses := true, named := ["internal/strconv.uint64pow10", "math/bits.deBruijn32tab", "math/bits.deBruijn64tab", "loupe/class.escapes"], plainKeys := false, apart := false, laid := [("math/bits.deBruijn32tab", laid_math_bits_deBruijn32tab), ("math/bits.deBruijn64tab", laid_math_bits_deBruijn64tab), ("internal/strconv.uint64pow10", laid_internal_strconv_uint64pow10), ("loupe/class.escapes", laid_loupe_class_escapes)], narrowed := true }
def MinimTablesUptoSaid : Prop := minimTablesUptoRow.holds Tryd.pinned (OpenSpec.upto minimTablesSpec)

/-- 'loupelaw07.MinimOneTable', WHERE WHAT IT READS IS OF BULK AT MOST 1048576: true; the input reads as it did. -/
def minimOneTableUptoRow : OpenClaim := { program := "ythomdogheamfpaadoor", sum := "c254adab555d57a6b88edb54c7e9221834931dff0e28f169d297d34ff846cad5", func := "loupe/loupelaw07.MinimOneTable", spec := "minimOneTable", inPlace := ["internal/bytealg.IndexByteString", "internal/abi.NoEscape"], unfollowed := true, recurses := true, named := ["internal/strconv.uint64pow10", "math/bits.deBruijn32tab", "math/bits.deBruijn64tab", "loupe/class.escapes"], plainKeys := false, apart := false, laid := [("math/bits.deBruijn32tab", laid_math_bits_deBruijn32tab), ("math/bits.deBruijn64tab", laid_math_bits_deBruijn64tab), ("internal/strconv.uint64pow10", laid_internal_strconv_uint64pow10), ("loupe/class.escapes", laid_loupe_class_escapes)], narrowed := true }
def MinimOneTableUptoSaid : Prop := minimOneTableUptoRow.holds Tryd.pinned (OpenSpec.upto minimOneTableSpec)

/-- 'loupelaw07.MinimDiffers', WHERE WHAT IT READS IS OF BULK AT MOST 1048576: true; the input reads as it did. -/
def minimDiffersUptoRow : OpenClaim := { program := "ythomdogheamfpaadoor", sum := "c254adab555d57a6b88edb54c7e9221834931dff0e28f169d297d34ff846cad5", func := "loupe/loupelaw07.MinimDiffers", spec := "minimDiffers", inPlace := ["internal/bytealg.IndexByteString", "internal/abi.NoEscape"], unfollowed := true, recurses := true, named := ["internal/strconv.uint64pow10", "math/bits.deBruijn32tab", "math/bits.deBruijn64tab", "loupe/class.escapes"], plainKeys := false, apart := false, laid := [("math/bits.deBruijn32tab", laid_math_bits_deBruijn32tab), ("math/bits.deBruijn64tab", laid_math_bits_deBruijn64tab), ("internal/strconv.uint64pow10", laid_internal_strconv_uint64pow10), ("loupe/class.escapes", laid_loupe_class_escapes)], narrowed := true }
def MinimDiffersUptoSaid : Prop := minimDiffersUptoRow.holds Tryd.pinned (OpenSpec.upto minimDiffersSpec)

/-- 'loupelaw07.MinimWitness', WHERE WHAT IT READS IS OF BULK AT MOST 1048576: true; the input reads as it did. -/
def minimWitnessUptoRow : OpenClaim := { program := "ythomdogheamfpaadoor", sum := "c254adab555d57a6b88edb54c7e9221834931dff0e28f169d297d34ff846cad5", func := "loupe/loupelaw07.MinimWitness", spec := "minimWitness", inPlace := ["internal/bytealg.IndexByteString", "internal/abi.NoEscape"], unfollowed := true, recurses := true, named := ["internal/strconv.uint64pow10", "math/bits.deBruijn32tab", "math/bits.deBruijn64tab", "loupe/class.escapes"], plainKeys := false, apart := false, laid := [("math/bits.deBruijn32tab", laid_math_bits_deBruijn32tab), ("math/bits.deBruijn64tab", laid_math_bits_deBruijn64tab), ("internal/strconv.uint64pow10", laid_internal_strconv_uint64pow10), ("loupe/class.escapes", laid_loupe_class_escapes)], narrowed := true }
def MinimWitnessUptoSaid : Prop := minimWitnessUptoRow.holds Tryd.pinned (OpenSpec.upto minimWitnessSpec)

/-- 'loupelaw07.MinimLeast', WHERE WHAT IT READS IS OF BULK AT MOST 1048576: true; the input reads as it did. -/
def minimLeastUptoRow : OpenClaim := { program := "ythomdogheamfpaadoor", sum := "c254adab555d57a6b88edb54c7e9221834931dff0e28f169d297d34ff846cad5", func := "loupe/loupelaw07.MinimLeast", spec := "minimLeast", inPlace := ["internal/bytealg.IndexByteString", "internal/abi.NoEscape"], unfollowed := true, recurses := true, named := ["internal/strconv.uint64pow10", "math/bits.deBruijn32tab", "math/bits.deBruijn64tab", "loupe/class.escapes"], plainKeys := false, apart := false, laid := [("math/bits.deBruijn32tab", laid_math_bits_deBruijn32tab), ("math/bits.deBruijn64tab", laid_math_bits_deBruijn64tab), ("internal/strconv.uint64pow10", laid_internal_strconv_uint64pow10), ("loupe/class.escapes", laid_loupe_class_escapes)], narrowed := true }
def MinimLeastUptoSaid : Prop := minimLeastUptoRow.holds Tryd.pinned (OpenSpec.upto minimLeastSpec)

/-- 'loupelaw05.DfaNets', WHERE WHAT IT READS IS OF BULK AT MOST 1048576: true; the input reads as it did. -/
def dfaNetsUptoRow : OpenClaim := { program := "ythomdogheamfpaadoor", sum := "c254adab555d57a6b88edb54c7e9221834931dff0e28f169d297d34ff846cad5", func := "loupe/loupelaw05.DfaNets", spec := "dfaNets", unfollowed := true, recurses := true, named := ["internal/strconv.uint64pow10", "math/bits.deBruijn32tab", "math/bits.deBruijn64tab"], plainKeys := false, apart := false, laid := [("math/bits.deBruijn32tab", laid_math_bits_deBruijn32tab), ("math/bits.deBruijn64tab", laid_math_bits_deBruijn64tab), ("internal/strconv.uint64pow10", laid_internal_strconv_uint64pow10)], narrowed := true }
def DfaNetsUptoSaid : Prop := dfaNetsUptoRow.holds Tryd.pinned (OpenSpec.upto dfaNetsSpec)

/-- 'loupelaw05.DfaBudgets', WHERE WHAT IT READS IS OF BULK AT MOST 1048576: true; the input reads as it did. -/
def dfaBudgetsUptoRow : OpenClaim := { program := "ythomdogheamfpaadoor", sum := "c254adab555d57a6b88edb54c7e9221834931dff0e28f169d297d34ff846cad5", func := "loupe/loupelaw05.DfaBudgets", spec := "dfaBudgets", unfollowed := true, recurses := true, named := ["internal/strconv.uint64pow10", "math/bits.deBruijn32tab", "math/bits.deBruijn64tab"], plainKeys := false, apart := false, laid := [("math/bits.deBruijn32tab", laid_math_bits_deBruijn32tab), ("math/bits.deBruijn64tab", laid_math_bits_deBruijn64tab), ("internal/strconv.uint64pow10", laid_internal_strconv_uint64pow10)], narrowed := true }
def DfaBudgetsUptoSaid : Prop := dfaBudgetsUptoRow.holds Tryd.pinned (OpenSpec.upto dfaBudgetsSpec)

/-- 'loupelaw05.DfaOrder', WHERE WHAT IT READS IS OF BULK AT MOST 1048576: true; the input reads as it did. -/
def dfaOrderUptoRow : OpenClaim := { program := "ythomdogheamfpaadoor", sum := "c254adab555d57a6b88edb54c7e9221834931dff0e28f169d297d34ff846cad5", func := "loupe/loupelaw05.DfaOrder", spec := "dfaOrder", unfollowed := true, recurses := true, named := ["internal/strconv.uint64pow10", "math/bits.deBruijn32tab", "math/bits.deBruijn64tab"], plainKeys := false, apart := false, laid := [("math/bits.deBruijn32tab", laid_math_bits_deBruijn32tab), ("math/bits.deBruijn64tab", laid_math_bits_deBruijn64tab), ("internal/strconv.uint64pow10", laid_internal_strconv_uint64pow10)], narrowed := true }
def DfaOrderUptoSaid : Prop := dfaOrderUptoRow.holds Tryd.pinned (OpenSpec.upto dfaOrderSpec)

/-- 'loupelaw05.DfaSets', WHERE WHAT IT READS IS OF BULK AT MOST 1048576: true; the input reads as it did. -/
def dfaSetsUptoRow : OpenClaim := { program := "ythomdogheamfpaadoor", sum := "c254adab555d57a6b88edb54c7e9221834931dff0e28f169d297d34ff846cad5", func := "loupe/loupelaw05.DfaSets", spec := "dfaSets", unfollowed := true, recurses := true, named := ["internal/strconv.uint64pow10", "math/bits.deBruijn32tab", "math/bits.deBruijn64tab"], plainKeys := false, apart := false, laid := [("math/bits.deBruijn32tab", laid_math_bits_deBruijn32tab), ("math/bits.deBruijn64tab", laid_math_bits_deBruijn64tab), ("internal/strconv.uint64pow10", laid_internal_strconv_uint64pow10)], narrowed := true }
def DfaSetsUptoSaid : Prop := dfaSetsUptoRow.holds Tryd.pinned (OpenSpec.upto dfaSetsSpec)

end Rows
end Go.Proofs.YthomdogheamfpaaDoor
