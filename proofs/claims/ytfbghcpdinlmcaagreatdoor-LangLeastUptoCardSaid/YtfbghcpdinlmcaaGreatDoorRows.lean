/-
  NARROWER THAN 'FOR EVERY INPUT', by the rows' own cells (each row's printed sentence says how): LangLarge: laid · LangProducts: laid · LangAlgebra: laid · LangDeMorgan: laid · LangLeast: laid · LangSigns: laid · DfaDeterminizes: laid · DfaMembers: laid · AmbigTexts: laid · MinimTexts: laid.
  DERIVED. THE GIVEN ROWS OF THIS SEAT. 10 by the template 'for every input the law returns true; each argument reads behind the call as it read before'; 0 by the template 'total and deterministic' (their statements: YtfbghcpdinlmcaaGreatDoorTotals.lean).
  GIVEN WITH THE SEED: the statements are not yours to turn. If you find one false, say at which input.
  Laid BY PROGRAM, IN A SANDBOX (cutbox-rows.mjs): the forced cells as the released guide's own fill.sh prints them over the translation dacf790fe956abb1… (all of the seat's roots in one cut). By AI agents, Wed Nov 11 2026. No macro, syntax, notation, axiom, sorry.
-/
import Derived.Test.YtfbghcpdinlmcaaGreatDoorChecked
import GoSem.Claim
import GoSem.ClaimJoined
import GoSem.ClaimMapViews
import Derived.JoinedTies
import Derived.KernelRfl
namespace Go.Proofs.YtfbghcpdinlmcaaGreatDoor
/- THE CELL 'sum', in the pinned program and in every row, IS THE sha256 OF THE DUMP (.gsa) THAT YtfbghcpdinlmcaaGreatDoorProg.lean LOADS. Nothing in Lean hashes anything: it is a label: what it is worth is what the hold of that sum in a sandbox is worth. -/
noncomputable def Tryz.pinned : Pinned := { name := "ytfbghcpdinlmcaagreatdoor", sum := "dacf790fe956abb1431e402ceba05f9f60e502474d6a1faed8d9c35c3e155c78", checked := Tryz.checked }
namespace Rows
def none {H : Type} : Left H := { results := [], args := [] }

/- WHAT THE LISTED PACKAGE-LEVEL VARIABLES READ AS WHEN THE CALL BEGINS. Each datum BY PROGRAM (the guide's laid-datum.mjs) off the statement by which the dump's own 'gosem.cut.vars' lays the variable. In a bare row this is a premise. The card (YtfbghcpdinlmcaaGreatDoorCards.lean) ties it to the program's text. -/
def laid_math_bits_deBruijn32tab {H : Type} : DataW H := .agg [.lit (.int .u8 0), .lit (.int .u8 1), .lit (.int .u8 28), .lit (.int .u8 2), .lit (.int .u8 29), .lit (.int .u8 14), .lit (.int .u8 24), .lit (.int .u8 3), .lit (.int .u8 30), .lit (.int .u8 22), .lit (.int .u8 20), .lit (.int .u8 15), .lit (.int .u8 25), .lit (.int .u8 17), .lit (.int .u8 4), .lit (.int .u8 8), .lit (.int .u8 31), .lit (.int .u8 27), .lit (.int .u8 13), .lit (.int .u8 23), .lit (.int .u8 21), .lit (.int .u8 19), .lit (.int .u8 16), .lit (.int .u8 7), .lit (.int .u8 26), .lit (.int .u8 12), .lit (.int .u8 18), .lit (.int .u8 6), .lit (.int .u8 11), .lit (.int .u8 5), .lit (.int .u8 10), .lit (.int .u8 9)]
def laid_math_bits_deBruijn64tab {H : Type} : DataW H := .agg [.lit (.int .u8 0), .lit (.int .u8 1), .lit (.int .u8 56), .lit (.int .u8 2), .lit (.int .u8 57), .lit (.int .u8 49), .lit (.int .u8 28), .lit (.int .u8 3), .lit (.int .u8 61), .lit (.int .u8 58), .lit (.int .u8 42), .lit (.int .u8 50), .lit (.int .u8 38), .lit (.int .u8 29), .lit (.int .u8 17), .lit (.int .u8 4), .lit (.int .u8 62), .lit (.int .u8 47), .lit (.int .u8 59), .lit (.int .u8 36), .lit (.int .u8 45), .lit (.int .u8 43), .lit (.int .u8 51), .lit (.int .u8 22), .lit (.int .u8 53), .lit (.int .u8 39), .lit (.int .u8 33), .lit (.int .u8 30), .lit (.int .u8 24), .lit (.int .u8 18), .lit (.int .u8 12), .lit (.int .u8 5), .lit (.int .u8 63), .lit (.int .u8 55), .lit (.int .u8 48), .lit (.int .u8 27), .lit (.int .u8 60), .lit (.int .u8 41), .lit (.int .u8 37), .lit (.int .u8 16), .lit (.int .u8 46), .lit (.int .u8 35), .lit (.int .u8 44), .lit (.int .u8 21), .lit (.int .u8 52), .lit (.int .u8 32), .lit (.int .u8 23), .lit (.int .u8 11), .lit (.int .u8 54), .lit (.int .u8 26), .lit (.int .u8 40), .lit (.int .u8 15), .lit (.int .u8 34), .lit (.int .u8 20), .lit (.int .u8 31), .lit (.int .u8 10), .lit (.int .u8 25), .lit (.int .u8 14), .lit (.int .u8 19), .lit (.int .u8 9), .lit (.int .u8 13), .lit (.int .u8 8), .lit (.int .u8 7), .lit (.int .u8 6)]
def laid_internal_strconv_uint64pow10 {H : Type} : DataW H := .agg [.lit (.int .u64 1), .lit (.int .u64 10), .lit (.int .u64 100), .lit (.int .u64 1000), .lit (.int .u64 10000), .lit (.int .u64 100000), .lit (.int .u64 1000000), .lit (.int .u64 10000000), .lit (.int .u64 100000000), .lit (.int .u64 1000000000), .lit (.int .u64 10000000000), .lit (.int .u64 100000000000), .lit (.int .u64 1000000000000), .lit (.int .u64 10000000000000), .lit (.int .u64 100000000000000), .lit (.int .u64 1000000000000000), .lit (.int .u64 10000000000000000), .lit (.int .u64 100000000000000000), .lit (.int .u64 1000000000000000000), .lit (.int .u64 10000000000000000000)]
def laid_loupe_class_escapes {H : Type} : DataW H := .agg [.agg [.lit (.int .u8 110), .lit (.int .u8 10)], .agg [.lit (.int .u8 114), .lit (.int .u8 13)], .agg [.lit (.int .u8 116), .lit (.int .u8 9)]]

/-- 'loupelaw06.LangLarge': WHATEVER THE INPUT: true; the input reads as it did. -/
def langLargeSpec : ChangeSpec := { name := "langLarge", fn := fun _ => fun
  | [d1, d2] => { results := [.lit (.bool true)], args := [d1, d2] }
  | _ => none }
def langLargeRow : OpenClaim := { program := "ytfbghcpdinlmcaagreatdoor", sum := "dacf790fe956abb1431e402ceba05f9f60e502474d6a1faed8d9c35c3e155c78", func := "loupe/loupelaw06.LangLarge", spec := "langLarge", unfollowed := true, recurses := true, named := ["internal/strconv.uint64pow10", "math/bits.deBruijn32tab", "math/bits.deBruijn64tab"], plainKeys := false, apart := false, laid := [("math/bits.deBruijn32tab", laid_math_bits_deBruijn32tab), ("math/bits.deBruijn64tab", laid_math_bits_deBruijn64tab), ("internal/strconv.uint64pow10", laid_internal_strconv_uint64pow10)] }
def LangLargeSaid : Prop := langLargeRow.holds Tryz.pinned (OpenSpec.ofChange langLargeSpec)

/-- ITS FALSE NEIGHBOUR: 'it returns false'. Refute it at one input. -/
def langLargeWrong : ChangeSpec := { name := "langLarge", fn := fun _ => fun
  | [d1, d2] => { results := [.lit (.bool false)], args := [d1, d2] }
  | _ => none }
def LangLargeWrongFalsely : Prop := langLargeRow.holds Tryz.pinned (OpenSpec.ofChange langLargeWrong)

/-- 'loupelaw06.LangProducts': WHATEVER THE INPUT: true; the input reads as it did. -/
def langProductsSpec : ChangeSpec := { name := "langProducts", fn := fun _ => fun
  | [d1, d2, d3] => { results := [.lit (.bool true)], args := [d1, d2, d3] }
  | _ => none }
def langProductsRow : OpenClaim := { program := "ytfbghcpdinlmcaagreatdoor", sum := "dacf790fe956abb1431e402ceba05f9f60e502474d6a1faed8d9c35c3e155c78", func := "loupe/loupelaw06.LangProducts", spec := "langProducts", unfollowed := true, recurses := true, named := ["internal/strconv.uint64pow10", "math/bits.deBruijn32tab", "math/bits.deBruijn64tab"], plainKeys := false, apart := false, laid := [("math/bits.deBruijn32tab", laid_math_bits_deBruijn32tab), ("math/bits.deBruijn64tab", laid_math_bits_deBruijn64tab), ("internal/strconv.uint64pow10", laid_internal_strconv_uint64pow10)] }
def LangProductsSaid : Prop := langProductsRow.holds Tryz.pinned (OpenSpec.ofChange langProductsSpec)

/-- ITS FALSE NEIGHBOUR: 'it returns false'. Refute it at one input. -/
def langProductsWrong : ChangeSpec := { name := "langProducts", fn := fun _ => fun
  | [d1, d2, d3] => { results := [.lit (.bool false)], args := [d1, d2, d3] }
  | _ => none }
def LangProductsWrongFalsely : Prop := langProductsRow.holds Tryz.pinned (OpenSpec.ofChange langProductsWrong)

/-- 'loupelaw06.LangAlgebra': WHATEVER THE INPUT: true; the input reads as it did. -/
def langAlgebraSpec : ChangeSpec := { name := "langAlgebra", fn := fun _ => fun
  | [d1, d2, d3] => { results := [.lit (.bool true)], args := [d1, d2, d3] }
  | _ => none }
def langAlgebraRow : OpenClaim := { program := "ytfbghcpdinlmcaagreatdoor", sum := "dacf790fe956abb1431e402ceba05f9f60e502474d6a1faed8d9c35c3e155c78", func := "loupe/loupelaw06.LangAlgebra", spec := "langAlgebra", unfollowed := true, recurses := true, named := ["internal/strconv.uint64pow10", "math/bits.deBruijn32tab", "math/bits.deBruijn64tab"], plainKeys := false, apart := false, laid := [("math/bits.deBruijn32tab", laid_math_bits_deBruijn32tab), ("math/bits.deBruijn64tab", laid_math_bits_deBruijn64tab), ("internal/strconv.uint64pow10", laid_internal_strconv_uint64pow10)] }
def LangAlgebraSaid : Prop := langAlgebraRow.holds Tryz.pinned (OpenSpec.ofChange langAlgebraSpec)

/-- ITS FALSE NEIGHBOUR: 'it returns false'. Refute it at one input. -/
def langAlgebraWrong : ChangeSpec := { name := "langAlgebra", fn := fun _ => fun
  | [d1, d2, d3] => { results := [.lit (.bool false)], args := [d1, d2, d3] }
  | _ => none }
def LangAlgebraWrongFalsely : Prop := langAlgebraRow.holds Tryz.pinned (OpenSpec.ofChange langAlgebraWrong)

/-- 'loupelaw06.LangDeMorgan': WHATEVER THE INPUT: true; the input reads as it did. -/
def langDeMorganSpec : ChangeSpec := { name := "langDeMorgan", fn := fun _ => fun
  | [d1, d2, d3] => { results := [.lit (.bool true)], args := [d1, d2, d3] }
  | _ => none }
def langDeMorganRow : OpenClaim := { program := "ytfbghcpdinlmcaagreatdoor", sum := "dacf790fe956abb1431e402ceba05f9f60e502474d6a1faed8d9c35c3e155c78", func := "loupe/loupelaw06.LangDeMorgan", spec := "langDeMorgan", unfollowed := true, recurses := true, named := ["internal/strconv.uint64pow10", "math/bits.deBruijn32tab", "math/bits.deBruijn64tab"], plainKeys := false, apart := false, laid := [("math/bits.deBruijn32tab", laid_math_bits_deBruijn32tab), ("math/bits.deBruijn64tab", laid_math_bits_deBruijn64tab), ("internal/strconv.uint64pow10", laid_internal_strconv_uint64pow10)] }
def LangDeMorganSaid : Prop := langDeMorganRow.holds Tryz.pinned (OpenSpec.ofChange langDeMorganSpec)

/-- ITS FALSE NEIGHBOUR: 'it returns false'. Refute it at one input. -/
def langDeMorganWrong : ChangeSpec := { name := "langDeMorgan", fn := fun _ => fun
  | [d1, d2, d3] => { results := [.lit (.bool false)], args := [d1, d2, d3] }
  | _ => none }
def LangDeMorganWrongFalsely : Prop := langDeMorganRow.holds Tryz.pinned (OpenSpec.ofChange langDeMorganWrong)

/-- 'loupelaw06.LangLeast': WHATEVER THE INPUT: true; the input reads as it did. -/
def langLeastSpec : ChangeSpec := { name := "langLeast", fn := fun _ => fun
  | [d1, d2] => { results := [.lit (.bool true)], args := [d1, d2] }
  | _ => none }
def langLeastRow : OpenClaim := { program := "ytfbghcpdinlmcaagreatdoor", sum := "dacf790fe956abb1431e402ceba05f9f60e502474d6a1faed8d9c35c3e155c78", func := "loupe/loupelaw06.LangLeast", spec := "langLeast", inPlace := ["internal/bytealg.IndexByteString"], unfollowed := true, recurses := true, named := ["loupe/class.escapes", "internal/strconv.uint64pow10", "math/bits.deBruijn32tab", "math/bits.deBruijn64tab"], plainKeys := false, apart := false, laid := [("math/bits.deBruijn32tab", laid_math_bits_deBruijn32tab), ("math/bits.deBruijn64tab", laid_math_bits_deBruijn64tab), ("internal/strconv.uint64pow10", laid_internal_strconv_uint64pow10), ("loupe/class.escapes", laid_loupe_class_escapes)] }
def LangLeastSaid : Prop := langLeastRow.holds Tryz.pinned (OpenSpec.ofChange langLeastSpec)

/-- ITS FALSE NEIGHBOUR: 'it returns false'. Refute it at one input. -/
def langLeastWrong : ChangeSpec := { name := "langLeast", fn := fun _ => fun
  | [d1, d2] => { results := [.lit (.bool false)], args := [d1, d2] }
  | _ => none }
def LangLeastWrongFalsely : Prop := langLeastRow.holds Tryz.pinned (OpenSpec.ofChange langLeastWrong)

/-- 'loupelaw06.LangSigns': WHATEVER THE INPUT: true; the input reads as it did. -/
def langSignsSpec : ChangeSpec := { name := "langSigns", fn := fun _ => fun
  | [d1, d2, d3] => { results := [.lit (.bool true)], args := [d1, d2, d3] }
  | _ => none }
def langSignsRow : OpenClaim := { program := "ytfbghcpdinlmcaagreatdoor", sum := "dacf790fe956abb1431e402ceba05f9f60e502474d6a1faed8d9c35c3e155c78", func := "loupe/loupelaw06.LangSigns", spec := "langSigns", inPlace := ["internal/bytealg.IndexByteString"], unfollowed := true, recurses := true, named := ["loupe/class.escapes", "internal/strconv.uint64pow10", "math/bits.deBruijn32tab", "math/bits.deBruijn64tab"], plainKeys := false, apart := false, laid := [("math/bits.deBruijn32tab", laid_math_bits_deBruijn32tab), ("math/bits.deBruijn64tab", laid_math_bits_deBruijn64tab), ("internal/strconv.uint64pow10", laid_internal_strconv_uint64pow10), ("loupe/class.escapes", laid_loupe_class_escapes)] }
def LangSignsSaid : Prop := langSignsRow.holds Tryz.pinned (OpenSpec.ofChange langSignsSpec)

/-- ITS FALSE NEIGHBOUR: 'it returns false'. Refute it at one input. -/
def langSignsWrong : ChangeSpec := { name := "langSigns", fn := fun _ => fun
  | [d1, d2, d3] => { results := [.lit (.bool false)], args := [d1, d2, d3] }
  | _ => none }
def LangSignsWrongFalsely : Prop := langSignsRow.holds Tryz.pinned (OpenSpec.ofChange langSignsWrong)

/-- 'loupelaw05.DfaDeterminizes': WHATEVER THE INPUT: true; the input reads as it did. -/
def dfaDeterminizesSpec : ChangeSpec := { name := "dfaDeterminizes", fn := fun _ => fun
  | [d1, d2] => { results := [.lit (.bool true)], args := [d1, d2] }
  | _ => none }
def dfaDeterminizesRow : OpenClaim := { program := "ytfbghcpdinlmcaagreatdoor", sum := "dacf790fe956abb1431e402ceba05f9f60e502474d6a1faed8d9c35c3e155c78", func := "loupe/loupelaw05.DfaDeterminizes", spec := "dfaDeterminizes", inPlace := ["internal/bytealg.IndexByteString"], unfollowed := true, recurses := true, named := ["loupe/class.escapes", "internal/strconv.uint64pow10", "math/bits.deBruijn32tab", "math/bits.deBruijn64tab"], plainKeys := false, apart := false, laid := [("math/bits.deBruijn32tab", laid_math_bits_deBruijn32tab), ("math/bits.deBruijn64tab", laid_math_bits_deBruijn64tab), ("internal/strconv.uint64pow10", laid_internal_strconv_uint64pow10), ("loupe/class.escapes", laid_loupe_class_escapes)] }
def DfaDeterminizesSaid : Prop := dfaDeterminizesRow.holds Tryz.pinned (OpenSpec.ofChange dfaDeterminizesSpec)

/-- ITS FALSE NEIGHBOUR: 'it returns false'. Refute it at one input. -/
def dfaDeterminizesWrong : ChangeSpec := { name := "dfaDeterminizes", fn := fun _ => fun
  | [d1, d2] => { results := [.lit (.bool false)], args := [d1, d2] }
  | _ => none }
def DfaDeterminizesWrongFalsely : Prop := dfaDeterminizesRow.holds Tryz.pinned (OpenSpec.ofChange dfaDeterminizesWrong)

/-- 'loupelaw05.DfaMembers': WHATEVER THE INPUT: true; the input reads as it did. -/
def dfaMembersSpec : ChangeSpec := { name := "dfaMembers", fn := fun _ => fun
  | [d1, d2] => { results := [.lit (.bool true)], args := [d1, d2] }
  | _ => none }
def dfaMembersRow : OpenClaim := { program := "ytfbghcpdinlmcaagreatdoor", sum := "dacf790fe956abb1431e402ceba05f9f60e502474d6a1faed8d9c35c3e155c78", func := "loupe/loupelaw05.DfaMembers", spec := "dfaMembers", inPlace := ["internal/bytealg.IndexByteString"], unfollowed := true, recurses := true, named := ["loupe/class.escapes", "internal/strconv.uint64pow10", "math/bits.deBruijn32tab", "math/bits.deBruijn64tab"], plainKeys := false, apart := false, laid := [("math/bits.deBruijn32tab", laid_math_bits_deBruijn32tab), ("math/bits.deBruijn64tab", laid_math_bits_deBruijn64tab), ("internal/strconv.uint64pow10", laid_internal_strconv_uint64pow10), ("loupe/class.escapes", laid_loupe_class_escapes)] }
def DfaMembersSaid : Prop := dfaMembersRow.holds Tryz.pinned (OpenSpec.ofChange dfaMembersSpec)

/-- ITS FALSE NEIGHBOUR: 'it returns false'. Refute it at one input. -/
def dfaMembersWrong : ChangeSpec := { name := "dfaMembers", fn := fun _ => fun
  | [d1, d2] => { results := [.lit (.bool false)], args := [d1, d2] }
  | _ => none }
def DfaMembersWrongFalsely : Prop := dfaMembersRow.holds Tryz.pinned (OpenSpec.ofChange dfaMembersWrong)

/-- 'loupelaw09.AmbigTexts': WHATEVER THE INPUT: true; the input reads as it did. -/
def ambigTextsSpec : ChangeSpec := { name := "ambigTexts", fn := fun _ => fun
  | [d1, d2, d3] => { results := [.lit (.bool true)], args := [d1, d2, d3] }
  | _ => none }
def ambigTextsRow : OpenClaim := { program := "ytfbghcpdinlmcaagreatdoor", sum := "dacf790fe956abb1431e402ceba05f9f60e502474d6a1faed8d9c35c3e155c78", func := "loupe/loupelaw09.AmbigTexts", spec := "ambigTexts", inPlace := ["internal/bytealg.IndexByteString"], unfollowed := true, recurses := true, named := ["loupe/class.escapes", "internal/strconv.uint64pow10", "math/bits.deBruijn32tab", "math/bits.deBruijn64tab"], plainKeys := false, apart := false, laid := [("math/bits.deBruijn32tab", laid_math_bits_deBruijn32tab), ("math/bits.deBruijn64tab", laid_math_bits_deBruijn64tab), ("internal/strconv.uint64pow10", laid_internal_strconv_uint64pow10), ("loupe/class.escapes", laid_loupe_class_escapes)] }
def AmbigTextsSaid : Prop := ambigTextsRow.holds Tryz.pinned (OpenSpec.ofChange ambigTextsSpec)

/-- ITS FALSE NEIGHBOUR: 'it returns false'. Refute it at one input. -/
def ambigTextsWrong : ChangeSpec := { name := "ambigTexts", fn := fun _ => fun
  | [d1, d2, d3] => { results := [.lit (.bool false)], args := [d1, d2, d3] }
  | _ => none }
def AmbigTextsWrongFalsely : Prop := ambigTextsRow.holds Tryz.pinned (OpenSpec.ofChange ambigTextsWrong)

/-- 'loupelaw07.MinimTexts': WHATEVER THE INPUT: true; the input reads as it did. -/
def minimTextsSpec : ChangeSpec := { name := "minimTexts", fn := fun _ => fun
  | [d1, d2, d3] => { results := [.lit (.bool true)], args := [d1, d2, d3] }
  | _ => none }
def minimTextsRow : OpenClaim := { program := "ytfbghcpdinlmcaagreatdoor", sum := "dacf790fe956abb1431e402ceba05f9f60e502474d6a1faed8d9c35c3e155c78", func := "loupe/loupelaw07.MinimTexts", spec := "minimTexts", inPlace := ["internal/bytealg.IndexByteString", "internal/abi.NoEscape"], unfollowed := true, recurses := true, named := ["internal/strconv.uint64pow10", "math/bits.deBruijn32tab", "math/bits.deBruijn64tab", "loupe/class.escapes"], plainKeys := false, apart := false, laid := [("math/bits.deBruijn32tab", laid_math_bits_deBruijn32tab), ("math/bits.deBruijn64tab", laid_math_bits_deBruijn64tab), ("internal/strconv.uint64pow10", laid_internal_strconv_uint64pow10), ("loupe/class.escapes", laid_loupe_class_escapes)] }
def MinimTextsSaid : Prop := minimTextsRow.holds Tryz.pinned (OpenSpec.ofChange minimTextsSpec)

/-- ITS FALSE NEIGHBOUR: 'it returns false'. Refute it at one input. -/
def minimTextsWrong : ChangeSpec := { name := "minimTexts", fn := fun _ => fun
  | [d1, d2, d3] => { results := [.lit (.bool false)], args := [d1, d2, d3] }
  | _ => none }
def MinimTextsWrongFalsely : Prop := minimTextsRow.holds Tryz.pinned (OpenSpec.ofChange minimTextsWrong)

/- THE SECOND FORM. 'bulk': how many values and letters a reading holds, each counted each time it is reached (what is shared counts as often as it is met; a slice's spare places count too). A statement '..UptoSaid' is the law's where the arguments, and the package variables that the reading takes, are together of bulk at most 1048576: NARROWER than '..Said'. Prove '..Said' where nothing that the law and all that it calls make is longer than what came in: it says more and counts as full. Else prove '..UptoSaid'. A law counts once. -/
mutual
def uptoBulk {H : Type} : DataW H → Nat
  | .lit (.string bytes) => bytes.length + 1
  | .lit _ => 1
  | .nil => 1
  | .ptr d => uptoBulk d + 1
  | .slice elems spare => uptoBulkAll elems + uptoBulkAll spare + 1
  | .agg parts => uptoBulkAll parts + 1
  | .iface _ d => uptoBulk d + 1
  | .map entries => uptoBulkEntries entries + 1
  | .held _ => 1
def uptoBulkAll {H : Type} : List (DataW H) → Nat
  | [] => 0
  | d :: r => uptoBulk d + uptoBulkAll r
def uptoBulkEntries {H : Type} : List (Lit × DataW H) → Nat
  | [] => 0
  | x :: r => uptoBulkEntry x + uptoBulkEntries r
def uptoBulkEntry {H : Type} : Lit × DataW H → Nat
  | (.string bytes, d) => bytes.length + uptoBulk d + 1
  | (_, d) => uptoBulk d + 1
 end
def uptoSmall : (H : Type) → List (DataW H) → Bool := fun _ ds => decide (uptoBulkAll ds ≤ 1048576)
def OpenSpec.upto (s : _root_.Go.ChangeSpec) : _root_.Go.OpenSpec := { _root_.Go.OpenSpec.ofChange s with cond := some uptoSmall }

/-- 'loupelaw06.LangLarge', WHERE WHAT IT READS IS OF BULK AT MOST 1048576: true; the input reads as it did. -/
def langLargeUptoRow : OpenClaim := { program := "ytfbghcpdinlmcaagreatdoor", sum := "dacf790fe956abb1431e402ceba05f9f60e502474d6a1faed8d9c35c3e155c78", func := "loupe/loupelaw06.LangLarge", spec := "langLarge", unfollowed := true, recurses := true, named := ["internal/strconv.uint64pow10", "math/bits.deBruijn32tab", "math/bits.deBruijn64tab"], plainKeys := false, apart := false, laid := [("math/bits.deBruijn32tab", laid_math_bits_deBruijn32tab), ("math/bits.deBruijn64tab", laid_math_bits_deBruijn64tab), ("internal/strconv.uint64pow10", laid_internal_strconv_uint64pow10)], narrowed := true }
def LangLargeUptoSaid : Prop := langLargeUptoRow.holds Tryz.pinned (OpenSpec.upto langLargeSpec)

/-- 'loupelaw06.LangProducts', WHERE WHAT IT READS IS OF BULK AT MOST 1048576: true; the input reads as it did. -/
def langProductsUptoRow : OpenClaim := { program := "ytfbghcpdinlmcaagreatdoor", sum := "dacf790fe956abb1431e402ceba05f9f60e502474d6a1faed8d9c35c3e155c78", func := "loupe/loupelaw06.LangProducts", spec := "langProducts", unfollowed := true, recurses := true, named := ["internal/strconv.uint64pow10", "math/bits.deBruijn32tab", "math/bits.deBruijn64tab"], plainKeys := false, apart := false, laid := [("math/bits.deBruijn32tab", laid_math_bits_deBruijn32tab), ("math/bits.deBruijn64tab", laid_math_bits_deBruijn64tab), ("internal/strconv.uint64pow10", laid_internal_strconv_uint64pow10)], narrowed := true }
def LangProductsUptoSaid : Prop := langProductsUptoRow.holds Tryz.pinned (OpenSpec.upto langProductsSpec)

/-- 'loupelaw06.LangAlgebra', WHERE WHAT IT READS IS OF BULK AT MOST 1048576: true; the input reads as it did. -/
def langAlgebraUptoRow : OpenClaim := { program := "ytfbghcpdinlmcaagreatdoor", sum := "dacf790fe956abb1431e402ceba05f9f60e502474d6a1faed8d9c35c3e155c78", func := "loupe/loupelaw06.LangAlgebra", spec := "langAlgebra", unfollowed := true, recurses := true, named := ["internal/strconv.uint64pow10", "math/bits.deBruijn32tab", "math/bits.deBruijn64tab"], plainKeys := false, apart := false, laid := [("math/bits.deBruijn32tab", laid_math_bits_deBruijn32tab), ("math/bits.deBruijn64tab", laid_math_bits_deBruijn64tab), ("internal/strconv.uint64pow10", laid_internal_strconv_uint64pow10)], narrowed := true }
def LangAlgebraUptoSaid : Prop := langAlgebraUptoRow.holds Tryz.pinned (OpenSpec.upto langAlgebraSpec)

/-- 'loupelaw06.LangDeMorgan', WHERE WHAT IT READS IS OF BULK AT MOST 1048576: true; the input reads as it did. -/
def langDeMorganUptoRow : OpenClaim := { program := "ytfbghcpdinlmcaagreatdoor", sum := "dacf790fe956abb1431e402ceba05f9f60e502474d6a1faed8d9c35c3e155c78", func := "loupe/loupelaw06.LangDeMorgan", spec := "langDeMorgan", unfollowed := true, recurses := true, named := ["internal/strconv.uint64pow10", "math/bits.deBruijn32tab", "math/bits.deBruijn64tab"], plainKeys := false, apart := false, laid := [("math/bits.deBruijn32tab", laid_math_bits_deBruijn32tab), ("math/bits.deBruijn64tab", laid_math_bits_deBruijn64tab), ("internal/strconv.uint64pow10", laid_internal_strconv_uint64pow10)], narrowed := true }
def LangDeMorganUptoSaid : Prop := langDeMorganUptoRow.holds Tryz.pinned (OpenSpec.upto langDeMorganSpec)

/-- 'loupelaw06.LangLeast', WHERE WHAT IT READS IS OF BULK AT MOST 1048576: true; the input reads as it did. -/
def langLeastUptoRow : OpenClaim := { program := "ytfbghcpdinlmcaagreatdoor", sum := "dacf790fe956abb1431e402ceba05f9f60e502474d6a1faed8d9c35c3e155c78", func := "loupe/loupelaw06.LangLeast", spec := "langLeast", inPlace := ["internal/bytealg.IndexByteString"], unfollowed := true, recurses := true, named := ["loupe/class.escapes", "internal/strconv.uint64pow10", "math/bits.deBruijn32tab", "math/bits.deBruijn64tab"], plainKeys := false, apart := false, laid := [("math/bits.deBruijn32tab", laid_math_bits_deBruijn32tab), ("math/bits.deBruijn64tab", laid_math_bits_deBruijn64tab), ("internal/strconv.uint64pow10", laid_internal_strconv_uint64pow10), ("loupe/class.escapes", laid_loupe_class_escapes)], narrowed := true }
def LangLeastUptoSaid : Prop := langLeastUptoRow.holds Tryz.pinned (OpenSpec.upto langLeastSpec)

/-- 'loupelaw06.LangSigns', WHERE WHAT IT READS IS OF BULK AT MOST 1048576: true; the input reads as it did. -/
def langSignsUptoRow : OpenClaim := { program := "ytfbghcpdinlmcaagreatdoor", sum := "dacf790fe956abb1431e402ceba05f9f60e502474d6a1faed8d9c35c3e155c78", func := "loupe/loupelaw06.LangSigns", spec := "langSigns", inPlace := ["internal/bytealg.IndexByteString"], unfollowed := true, recurses := true, named := ["loupe/class.escapes", "internal/strconv.uint64pow10", "math/bits.deBruijn32tab", "math/bits.deBruijn64tab"], plainKeys := false, apart := false, laid := [("math/bits.deBruijn32tab", laid_math_bits_deBruijn32tab), ("math/bits.deBruijn64tab", laid_math_bits_deBruijn64tab), ("internal/strconv.uint64pow10", laid_internal_strconv_uint64pow10), ("loupe/class.escapes", laid_loupe_class_escapes)], narrowed := true }
def LangSignsUptoSaid : Prop := langSignsUptoRow.holds Tryz.pinned (OpenSpec.upto langSignsSpec)

/-- 'loupelaw05.DfaDeterminizes', WHERE WHAT IT READS IS OF BULK AT MOST 1048576: true; the input reads as it did. -/
def dfaDeterminizesUptoRow : OpenClaim := { program := "ytfbghcpdinlmcaagreatdoor", sum := "dacf790fe956abb1431e402ceba05f9f60e502474d6a1faed8d9c35c3e155c78", func := "loupe/loupelaw05.DfaDeterminizes", spec := "dfaDeterminizes", inPlace := ["internal/bytealg.IndexByteString"], unfollowed := true, recurses := true, named := ["loupe/class.escapes", "internal/strconv.uint64pow10", "math/bits.deBruijn32tab", "math/bits.deBruijn64tab"], plainKeys := false, apart := false, laid := [("math/bits.deBruijn32tab", laid_math_bits_deBruijn32tab), ("math/bits.deBruijn64tab", laid_math_bits_deBruijn64tab), ("internal/strconv.uint64pow10", laid_internal_strconv_uint64pow10), ("loupe/class.escapes", laid_loupe_class_escapes)], narrowed := true }
def DfaDeterminizesUptoSaid : Prop := dfaDeterminizesUptoRow.holds Tryz.pinned (OpenSpec.upto dfaDeterminizesSpec)

/-- 'loupelaw05.DfaMembers', WHERE WHAT IT READS IS OF BULK AT MOST 1048576: true; the input reads as it did. -/
def dfaMembersUptoRow : OpenClaim := { program := "ytfbghcpdinlmcaagreatdoor", sum := "dacf790fe956abb1431e402ceba05f9f60e502474d6a1faed8d9c35c3e155c78", func := "loupe/loupelaw05.DfaMembers", spec := "dfaMembers", inPlace := ["internal/bytealg.IndexByteString"], unfollowed := true, recurses := true, named := ["loupe/class.escapes", "internal/strconv.uint64pow10", "math/bits.deBruijn32tab", "math/bits.deBruijn64tab"], plainKeys := false, apart := false, laid := [("math/bits.deBruijn32tab", laid_math_bits_deBruijn32tab), ("math/bits.deBruijn64tab", laid_math_bits_deBruijn64tab), ("internal/strconv.uint64pow10", laid_internal_strconv_uint64pow10), ("loupe/class.escapes", laid_loupe_class_escapes)], narrowed := true }
def DfaMembersUptoSaid : Prop := dfaMembersUptoRow.holds Tryz.pinned (OpenSpec.upto dfaMembersSpec)

/-- 'loupelaw09.AmbigTexts', WHERE WHAT IT READS IS OF BULK AT MOST 1048576: true; the input reads as it did. -/
def ambigTextsUptoRow : OpenClaim := { program := "ytfbghcpdinlmcaagreatdoor", sum := "dacf790fe956abb1431e402ceba05f9f60e502474d6a1faed8d9c35c3e155c78", func := "loupe/loupelaw09.AmbigTexts", spec := "ambigTexts", inPlace := ["internal/bytealg.IndexByteString"], unfollowed := true, recurses := true, named := ["loupe/class.escapes", "internal/strconv.uint64pow10", "math/bits.deBruijn32tab", "math/bits.deBruijn64tab"], plainKeys := false, apart := false, laid := [("math/bits.deBruijn32tab", laid_math_bits_deBruijn32tab), ("math/bits.deBruijn64tab", laid_math_bits_deBruijn64tab), ("internal/strconv.uint64pow10", laid_internal_strconv_uint64pow10), ("loupe/class.escapes", laid_loupe_class_escapes)], narrowed := true }
def AmbigTextsUptoSaid : Prop := ambigTextsUptoRow.holds Tryz.pinned (OpenSpec.upto ambigTextsSpec)

/-- 'loupelaw07.MinimTexts', WHERE WHAT IT READS IS OF BULK AT MOST 1048576: true; the input reads as it did. -/
def minimTextsUptoRow : OpenClaim := { program := "ytfbghcpdinlmcaagreatdoor", sum := "dacf790fe956abb1431e402ceba05f9f60e502474d6a1faed8d9c35c3e155c78", func := "loupe/loupelaw07.MinimTexts", spec := "minimTexts", inPlace := ["internal/bytealg.IndexByteString", "internal/abi.NoEscape"], unfollowed := true, recurses := true, named := ["internal/strconv.uint64pow10", "math/bits.deBruijn32tab", "math/bits.deBruijn64tab", "loupe/class.escapes"], plainKeys := false, apart := false, laid := [("math/bits.deBruijn32tab", laid_math_bits_deBruijn32tab), ("math/bits.deBruijn64tab", laid_math_bits_deBruijn64tab), ("internal/strconv.uint64pow10", laid_internal_strconv_uint64pow10), ("loupe/class.escapes", laid_loupe_class_escapes)], narrowed := true }
def MinimTextsUptoSaid : Prop := minimTextsUptoRow.holds Tryz.pinned (OpenSpec.upto minimTextsSpec)

end Rows
end Go.Proofs.YtfbghcpdinlmcaaGreatDoor
