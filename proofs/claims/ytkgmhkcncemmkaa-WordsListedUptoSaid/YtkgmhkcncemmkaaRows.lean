/-
  No cell of these rows narrows 'for every input' (looked for: loops, veiled, ifaces, maps, wideKeys, modest, calm, conditions, laid).
  DERIVED. THE GIVEN ROWS OF THIS SEAT. 12 by the template 'for every input the law returns true; each argument reads behind the call as it read before'; 0 by the template 'total and deterministic' (their statements: YtkgmhkcncemmkaaTotals.lean).
  GIVEN WITH THE SEED: the statements are not yours to turn. If you find one false, say at which input.
  Laid BY PROGRAM, IN A SANDBOX (cutbox-rows.mjs): the forced cells as the released guide's own fill.sh prints them over the translation 05ba2c963e3c5a03… (all of the seat's roots in one cut). By AI agents, Wed Nov 11 2026. No macro, syntax, notation, axiom, sorry.
-/
import Derived.Test.YtkgmhkcncemmkaaChecked
import GoSem.Claim
import GoSem.ClaimJoined
import GoSem.ClaimMapViews
import Derived.JoinedTies
import Derived.KernelRfl
namespace Go.Proofs.Ytkgmhkcncemmkaa
/- THE CELL 'sum', in the pinned program and in every row, IS THE sha256 OF THE DUMP (.gsa) THAT YtkgmhkcncemmkaaProg.lean LOADS. Nothing in Lean hashes anything: it is a label: what it is worth is what the hold of that sum in a sandbox is worth. -/
noncomputable def Try.pinned : Pinned := { name := "ytkgmhkcncemmkaa", sum := "05ba2c963e3c5a03b1c8f93dc99c451a9ab0792102efbf4dd3a7bea8a33c24ff", checked := Try.checked }
namespace Rows
def none {H : Type} : Left H := { results := [], args := [] }

/-- 'loupelaw08.WordsCounts': WHATEVER THE INPUT: true; the input reads as it did. -/
def wordsCountsSpec : ChangeSpec := { name := "wordsCounts", fn := fun _ => fun
  | [d1, d2] => { results := [.lit (.bool true)], args := [d1, d2] }
  | _ => none }
def wordsCountsRow : OpenClaim := { program := "ytkgmhkcncemmkaa", sum := "05ba2c963e3c5a03b1c8f93dc99c451a9ab0792102efbf4dd3a7bea8a33c24ff", func := "loupe/loupelaw08.WordsCounts", spec := "wordsCounts", plainKeys := false, apart := false }
def WordsCountsSaid : Prop := wordsCountsRow.holds Try.pinned (OpenSpec.ofChange wordsCountsSpec)

/-- ITS FALSE NEIGHBOUR: 'it returns false'. Refute it at one input. -/
def wordsCountsWrong : ChangeSpec := { name := "wordsCounts", fn := fun _ => fun
  | [d1, d2] => { results := [.lit (.bool false)], args := [d1, d2] }
  | _ => none }
def WordsCountsWrongFalsely : Prop := wordsCountsRow.holds Try.pinned (OpenSpec.ofChange wordsCountsWrong)

/-- 'loupelaw08.WordsLeasts': WHATEVER THE INPUT: true; the input reads as it did. -/
def wordsLeastsSpec : ChangeSpec := { name := "wordsLeasts", fn := fun _ => fun
  | [d1, d2] => { results := [.lit (.bool true)], args := [d1, d2] }
  | _ => none }
def wordsLeastsRow : OpenClaim := { program := "ytkgmhkcncemmkaa", sum := "05ba2c963e3c5a03b1c8f93dc99c451a9ab0792102efbf4dd3a7bea8a33c24ff", func := "loupe/loupelaw08.WordsLeasts", spec := "wordsLeasts", plainKeys := false, apart := false }
def WordsLeastsSaid : Prop := wordsLeastsRow.holds Try.pinned (OpenSpec.ofChange wordsLeastsSpec)

/-- ITS FALSE NEIGHBOUR: 'it returns false'. Refute it at one input. -/
def wordsLeastsWrong : ChangeSpec := { name := "wordsLeasts", fn := fun _ => fun
  | [d1, d2] => { results := [.lit (.bool false)], args := [d1, d2] }
  | _ => none }
def WordsLeastsWrongFalsely : Prop := wordsLeastsRow.holds Try.pinned (OpenSpec.ofChange wordsLeastsWrong)

/-- 'loupelaw08.WordsTwo': WHATEVER THE INPUT: true; the input reads as it did. -/
def wordsTwoSpec : ChangeSpec := { name := "wordsTwo", fn := fun _ => fun
  | [d] => { results := [.lit (.bool true)], args := [d] }
  | _ => none }
def wordsTwoRow : OpenClaim := { program := "ytkgmhkcncemmkaa", sum := "05ba2c963e3c5a03b1c8f93dc99c451a9ab0792102efbf4dd3a7bea8a33c24ff", func := "loupe/loupelaw08.WordsTwo", spec := "wordsTwo", plainKeys := false, apart := false }
def WordsTwoSaid : Prop := wordsTwoRow.holds Try.pinned (OpenSpec.ofChange wordsTwoSpec)

/-- ITS FALSE NEIGHBOUR: 'it returns false'. Refute it at one input. -/
def wordsTwoWrong : ChangeSpec := { name := "wordsTwo", fn := fun _ => fun
  | [d] => { results := [.lit (.bool false)], args := [d] }
  | _ => none }
def WordsTwoWrongFalsely : Prop := wordsTwoRow.holds Try.pinned (OpenSpec.ofChange wordsTwoWrong)

/-- 'loupelaw08.WordsNths': WHATEVER THE INPUT: true; the input reads as it did. -/
def wordsNthsSpec : ChangeSpec := { name := "wordsNths", fn := fun _ => fun
  | [d1, d2, d3] => { results := [.lit (.bool true)], args := [d1, d2, d3] }
  | _ => none }
def wordsNthsRow : OpenClaim := { program := "ytkgmhkcncemmkaa", sum := "05ba2c963e3c5a03b1c8f93dc99c451a9ab0792102efbf4dd3a7bea8a33c24ff", func := "loupe/loupelaw08.WordsNths", spec := "wordsNths", plainKeys := false, apart := false }
def WordsNthsSaid : Prop := wordsNthsRow.holds Try.pinned (OpenSpec.ofChange wordsNthsSpec)

/-- ITS FALSE NEIGHBOUR: 'it returns false'. Refute it at one input. -/
def wordsNthsWrong : ChangeSpec := { name := "wordsNths", fn := fun _ => fun
  | [d1, d2, d3] => { results := [.lit (.bool false)], args := [d1, d2, d3] }
  | _ => none }
def WordsNthsWrongFalsely : Prop := wordsNthsRow.holds Try.pinned (OpenSpec.ofChange wordsNthsWrong)

/-- 'loupelaw08.WordsRanks': WHATEVER THE INPUT: true; the input reads as it did. -/
def wordsRanksSpec : ChangeSpec := { name := "wordsRanks", fn := fun _ => fun
  | [d1, d2] => { results := [.lit (.bool true)], args := [d1, d2] }
  | _ => none }
def wordsRanksRow : OpenClaim := { program := "ytkgmhkcncemmkaa", sum := "05ba2c963e3c5a03b1c8f93dc99c451a9ab0792102efbf4dd3a7bea8a33c24ff", func := "loupe/loupelaw08.WordsRanks", spec := "wordsRanks", plainKeys := false, apart := false }
def WordsRanksSaid : Prop := wordsRanksRow.holds Try.pinned (OpenSpec.ofChange wordsRanksSpec)

/-- ITS FALSE NEIGHBOUR: 'it returns false'. Refute it at one input. -/
def wordsRanksWrong : ChangeSpec := { name := "wordsRanks", fn := fun _ => fun
  | [d1, d2] => { results := [.lit (.bool false)], args := [d1, d2] }
  | _ => none }
def WordsRanksWrongFalsely : Prop := wordsRanksRow.holds Try.pinned (OpenSpec.ofChange wordsRanksWrong)

/-- 'loupelaw08.WordsLists': WHATEVER THE INPUT: true; the input reads as it did. -/
def wordsListsSpec : ChangeSpec := { name := "wordsLists", fn := fun _ => fun
  | [d1, d2] => { results := [.lit (.bool true)], args := [d1, d2] }
  | _ => none }
def wordsListsRow : OpenClaim := { program := "ytkgmhkcncemmkaa", sum := "05ba2c963e3c5a03b1c8f93dc99c451a9ab0792102efbf4dd3a7bea8a33c24ff", func := "loupe/loupelaw08.WordsLists", spec := "wordsLists", unfollowed := true, recurses := true, plainKeys := false, apart := false }
def WordsListsSaid : Prop := wordsListsRow.holds Try.pinned (OpenSpec.ofChange wordsListsSpec)

/-- ITS FALSE NEIGHBOUR: 'it returns false'. Refute it at one input. -/
def wordsListsWrong : ChangeSpec := { name := "wordsLists", fn := fun _ => fun
  | [d1, d2] => { results := [.lit (.bool false)], args := [d1, d2] }
  | _ => none }
def WordsListsWrongFalsely : Prop := wordsListsRow.holds Try.pinned (OpenSpec.ofChange wordsListsWrong)

/-- 'loupelaw08.WordsThereAndBack': WHATEVER THE INPUT: true; the input reads as it did. -/
def wordsThereAndBackSpec : ChangeSpec := { name := "wordsThereAndBack", fn := fun _ => fun
  | [d1, d2, d3] => { results := [.lit (.bool true)], args := [d1, d2, d3] }
  | _ => none }
def wordsThereAndBackRow : OpenClaim := { program := "ytkgmhkcncemmkaa", sum := "05ba2c963e3c5a03b1c8f93dc99c451a9ab0792102efbf4dd3a7bea8a33c24ff", func := "loupe/loupelaw08.WordsThereAndBack", spec := "wordsThereAndBack", plainKeys := false, apart := false }
def WordsThereAndBackSaid : Prop := wordsThereAndBackRow.holds Try.pinned (OpenSpec.ofChange wordsThereAndBackSpec)

/-- ITS FALSE NEIGHBOUR: 'it returns false'. Refute it at one input. -/
def wordsThereAndBackWrong : ChangeSpec := { name := "wordsThereAndBack", fn := fun _ => fun
  | [d1, d2, d3] => { results := [.lit (.bool false)], args := [d1, d2, d3] }
  | _ => none }
def WordsThereAndBackWrongFalsely : Prop := wordsThereAndBackRow.holds Try.pinned (OpenSpec.ofChange wordsThereAndBackWrong)

/-- 'loupelaw08.WordsListed': WHATEVER THE INPUT: true; the input reads as it did. -/
def wordsListedSpec : ChangeSpec := { name := "wordsListed", fn := fun _ => fun
  | [d1, d2] => { results := [.lit (.bool true)], args := [d1, d2] }
  | _ => none }
def wordsListedRow : OpenClaim := { program := "ytkgmhkcncemmkaa", sum := "05ba2c963e3c5a03b1c8f93dc99c451a9ab0792102efbf4dd3a7bea8a33c24ff", func := "loupe/loupelaw08.WordsListed", spec := "wordsListed", unfollowed := true, recurses := true, plainKeys := false, apart := false }
def WordsListedSaid : Prop := wordsListedRow.holds Try.pinned (OpenSpec.ofChange wordsListedSpec)

/-- ITS FALSE NEIGHBOUR: 'it returns false'. Refute it at one input. -/
def wordsListedWrong : ChangeSpec := { name := "wordsListed", fn := fun _ => fun
  | [d1, d2] => { results := [.lit (.bool false)], args := [d1, d2] }
  | _ => none }
def WordsListedWrongFalsely : Prop := wordsListedRow.holds Try.pinned (OpenSpec.ofChange wordsListedWrong)

/-- 'loupelaw09.AmbigCats': WHATEVER THE INPUT: true; the input reads as it did. -/
def ambigCatsSpec : ChangeSpec := { name := "ambigCats", fn := fun _ => fun
  | [d1, d2] => { results := [.lit (.bool true)], args := [d1, d2] }
  | _ => none }
def ambigCatsRow : OpenClaim := { program := "ytkgmhkcncemmkaa", sum := "05ba2c963e3c5a03b1c8f93dc99c451a9ab0792102efbf4dd3a7bea8a33c24ff", func := "loupe/loupelaw09.AmbigCats", spec := "ambigCats", unfollowed := true, recurses := true, plainKeys := false, apart := false }
def AmbigCatsSaid : Prop := ambigCatsRow.holds Try.pinned (OpenSpec.ofChange ambigCatsSpec)

/-- ITS FALSE NEIGHBOUR: 'it returns false'. Refute it at one input. -/
def ambigCatsWrong : ChangeSpec := { name := "ambigCats", fn := fun _ => fun
  | [d1, d2] => { results := [.lit (.bool false)], args := [d1, d2] }
  | _ => none }
def AmbigCatsWrongFalsely : Prop := ambigCatsRow.holds Try.pinned (OpenSpec.ofChange ambigCatsWrong)

/-- 'loupelaw09.AmbigIters': WHATEVER THE INPUT: true; the input reads as it did. -/
def ambigItersSpec : ChangeSpec := { name := "ambigIters", fn := fun _ => fun
  | [d] => { results := [.lit (.bool true)], args := [d] }
  | _ => none }
def ambigItersRow : OpenClaim := { program := "ytkgmhkcncemmkaa", sum := "05ba2c963e3c5a03b1c8f93dc99c451a9ab0792102efbf4dd3a7bea8a33c24ff", func := "loupe/loupelaw09.AmbigIters", spec := "ambigIters", unfollowed := true, recurses := true, plainKeys := false, apart := false }
def AmbigItersSaid : Prop := ambigItersRow.holds Try.pinned (OpenSpec.ofChange ambigItersSpec)

/-- ITS FALSE NEIGHBOUR: 'it returns false'. Refute it at one input. -/
def ambigItersWrong : ChangeSpec := { name := "ambigIters", fn := fun _ => fun
  | [d] => { results := [.lit (.bool false)], args := [d] }
  | _ => none }
def AmbigItersWrongFalsely : Prop := ambigItersRow.holds Try.pinned (OpenSpec.ofChange ambigItersWrong)

/-- 'loupelaw09.AmbigCatShows': WHATEVER THE INPUT: true; the input reads as it did. -/
def ambigCatShowsSpec : ChangeSpec := { name := "ambigCatShows", fn := fun _ => fun
  | [d1, d2, d3] => { results := [.lit (.bool true)], args := [d1, d2, d3] }
  | _ => none }
def ambigCatShowsRow : OpenClaim := { program := "ytkgmhkcncemmkaa", sum := "05ba2c963e3c5a03b1c8f93dc99c451a9ab0792102efbf4dd3a7bea8a33c24ff", func := "loupe/loupelaw09.AmbigCatShows", spec := "ambigCatShows", unfollowed := true, recurses := true, plainKeys := false, apart := false }
def AmbigCatShowsSaid : Prop := ambigCatShowsRow.holds Try.pinned (OpenSpec.ofChange ambigCatShowsSpec)

/-- ITS FALSE NEIGHBOUR: 'it returns false'. Refute it at one input. -/
def ambigCatShowsWrong : ChangeSpec := { name := "ambigCatShows", fn := fun _ => fun
  | [d1, d2, d3] => { results := [.lit (.bool false)], args := [d1, d2, d3] }
  | _ => none }
def AmbigCatShowsWrongFalsely : Prop := ambigCatShowsRow.holds Try.pinned (OpenSpec.ofChange ambigCatShowsWrong)

/-- 'loupelaw09.AmbigIterShows': WHATEVER THE INPUT: true; the input reads as it did. -/
def ambigIterShowsSpec : ChangeSpec := { name := "ambigIterShows", fn := fun _ => fun
  | [d1, d2] => { results := [.lit (.bool true)], args := [d1, d2] }
  | _ => none }
def ambigIterShowsRow : OpenClaim := { program := "ytkgmhkcncemmkaa", sum := "05ba2c963e3c5a03b1c8f93dc99c451a9ab0792102efbf4dd3a7bea8a33c24ff", func := "loupe/loupelaw09.AmbigIterShows", spec := "ambigIterShows", unfollowed := true, recurses := true, plainKeys := false, apart := false }
def AmbigIterShowsSaid : Prop := ambigIterShowsRow.holds Try.pinned (OpenSpec.ofChange ambigIterShowsSpec)

/-- ITS FALSE NEIGHBOUR: 'it returns false'. Refute it at one input. -/
def ambigIterShowsWrong : ChangeSpec := { name := "ambigIterShows", fn := fun _ => fun
  | [d1, d2] => { results := [.lit (.bool false)], args := [d1, d2] }
  | _ => none }
def AmbigIterShowsWrongFalsely : Prop := ambigIterShowsRow.holds Try.pinned (OpenSpec.ofChange ambigIterShowsWrong)

/- THE SECOND FORM. 'bulk': how many values and letters a reading holds, each counted each time it is reached (what is shared counts as often as it is met; a slice's spare places count too). A statement '..UptoSaid' is the law's where the arguments, and the package variables that the reading takes, are together of bulk at most 1048576: NARROWER than '..Said'. Prove '..Said' where nothing that the law and all that it calls make is longer than what came in: it says more and counts as full. Else prove '..UptoSaid'. A law counts once. -/
mutual
def uptoBulk {H : Type} : DataW H → Nat
  | .lit (.string bytes) => bytes.length + 1
  | .lit _ => 1
  | .nil => 1
  | .ptr d => uptoBulk d + 1
  | .slice elems spare => uptoBulkAll elems + uptoBulkAll spare + 1
  | .agg parts => uptoBulkAll parts + 1
  | .iface _ d => uptoBulk d + 1
  | .map entries => uptoBulkEntries entries + 1
  | .held _ => 1
def uptoBulkAll {H : Type} : List (DataW H) → Nat
  | [] => 0
  | d :: r => uptoBulk d + uptoBulkAll r
def uptoBulkEntries {H : Type} : List (Lit × DataW H) → Nat
  | [] => 0
  | x :: r => uptoBulkEntry x + uptoBulkEntries r
def uptoBulkEntry {H : Type} : Lit × DataW H → Nat
  | (.string bytes, d) => bytes.length + uptoBulk d + 1
  | (_, d) => uptoBulk d + 1
 end
def uptoSmall : (H : Type) → List (DataW H) → Bool := fun _ ds => decide (uptoBulkAll ds ≤ 1048576)
def OpenSpec.upto (s : _root_.Go.ChangeSpec) : _root_.Go.OpenSpec := { _root_.Go.OpenSpec.ofChange s with cond := some uptoSmall }

/-- 'loupelaw08.WordsCounts', WHERE WHAT IT READS IS OF BULK AT MOST 1048576: true; the input reads as it did. -/
def wordsCountsUptoRow : OpenClaim := { program := "ytkgmhkcncemmkaa", sum := "05ba2c963e3c5a03b1c8f93dc99c451a9ab0792102efbf4dd3a7bea8a33c24ff", func := "loupe/loupelaw08.WordsCounts", spec := "wordsCounts", plainKeys := false, apart := false, narrowed := true }
def WordsCountsUptoSaid : Prop := wordsCountsUptoRow.holds Try.pinned (OpenSpec.upto wordsCountsSpec)

/-- 'loupelaw08.WordsLeasts', WHERE WHAT IT READS IS OF BULK AT MOST 1048576: true; the input reads as it did. -/
def wordsLeastsUptoRow : OpenClaim := { program := "ytkgmhkcncemmkaa", sum := "05ba2c963e3c5a03b1c8f93dc99c451a9ab0792102efbf4dd3a7bea8a33c24ff", func := "loupe/loupelaw08.WordsLeasts", spec := "wordsLeasts", plainKeys := false, apart := false, narrowed := true }
def WordsLeastsUptoSaid : Prop := wordsLeastsUptoRow.holds Try.pinned (OpenSpec.upto wordsLeastsSpec)

/-- 'loupelaw08.WordsTwo', WHERE WHAT IT READS IS OF BULK AT MOST 1048576: true; the input reads as it did. -/
def wordsTwoUptoRow : OpenClaim := { program := "ytkgmhkcncemmkaa", sum := "05ba2c963e3c5a03b1c8f93dc99c451a9ab0792102efbf4dd3a7bea8a33c24ff", func := "loupe/loupelaw08.WordsTwo", spec := "wordsTwo", plainKeys := false, apart := false, narrowed := true }
def WordsTwoUptoSaid : Prop := wordsTwoUptoRow.holds Try.pinned (OpenSpec.upto wordsTwoSpec)

/-- 'loupelaw08.WordsNths', WHERE WHAT IT READS IS OF BULK AT MOST 1048576: true; the input reads as it did. -/
def wordsNthsUptoRow : OpenClaim := { program := "ytkgmhkcncemmkaa", sum := "05ba2c963e3c5a03b1c8f93dc99c451a9ab0792102efbf4dd3a7bea8a33c24ff", func := "loupe/loupelaw08.WordsNths", spec := "wordsNths", plainKeys := false, apart := false, narrowed := true }
def WordsNthsUptoSaid : Prop := wordsNthsUptoRow.holds Try.pinned (OpenSpec.upto wordsNthsSpec)

/-- 'loupelaw08.WordsRanks', WHERE WHAT IT READS IS OF BULK AT MOST 1048576: true; the input reads as it did. -/
def wordsRanksUptoRow : OpenClaim := { program := "ytkgmhkcncemmkaa", sum := "05ba2c963e3c5a03b1c8f93dc99c451a9ab0792102efbf4dd3a7bea8a33c24ff", func := "loupe/loupelaw08.WordsRanks", spec := "wordsRanks", plainKeys := false, apart := false, narrowed := true }
def WordsRanksUptoSaid : Prop := wordsRanksUptoRow.holds Try.pinned (OpenSpec.upto wordsRanksSpec)

/-- 'loupelaw08.WordsLists', WHERE WHAT IT READS IS OF BULK AT MOST 1048576: true; the input reads as it did. -/
def wordsListsUptoRow : OpenClaim := { program := "ytkgmhkcncemmkaa", sum := "05ba2c963e3c5a03b1c8f93dc99c451a9ab0792102efbf4dd3a7bea8a33c24ff", func := "loupe/loupelaw08.WordsLists", spec := "wordsLists", unfollowed := true, recurses := true, plainKeys := false, apart := false, narrowed := true }
def WordsListsUptoSaid : Prop := wordsListsUptoRow.holds Try.pinned (OpenSpec.upto wordsListsSpec)

/-- 'loupelaw08.WordsThereAndBack', WHERE WHAT IT READS IS OF BULK AT MOST 1048576: true; the input reads as it did. -/
def wordsThereAndBackUptoRow : OpenClaim := { program := "ytkgmhkcncemmkaa", sum := "05ba2c963e3c5a03b1c8f93dc99c451a9ab0792102efbf4dd3a7bea8a33c24ff", func := "loupe/loupelaw08.WordsThereAndBack", spec := "wordsThereAndBack", plainKeys := false, apart := false, narrowed := true }
def WordsThereAndBackUptoSaid : Prop := wordsThereAndBackUptoRow.holds Try.pinned (OpenSpec.upto wordsThereAndBackSpec)

/-- 'loupelaw08.WordsListed', WHERE WHAT IT READS IS OF BULK AT MOST 1048576: true; the input reads as it did. -/
def wordsListedUptoRow : OpenClaim := { program := "ytkgmhkcncemmkaa", sum := "05ba2c963e3c5a03b1c8f93dc99c451a9ab0792102efbf4dd3a7bea8a33c24ff", func := "loupe/loupelaw08.WordsListed", spec := "wordsListed", unfollowed := true, recurses := true, plainKeys := false, apart := false, narrowed := true }
def WordsListedUptoSaid : Prop := wordsListedUptoRow.holds Try.pinned (OpenSpec.upto wordsListedSpec)

/-- 'loupelaw09.AmbigCats', WHERE WHAT IT READS IS OF BULK AT MOST 1048576: true; the input reads as it did. -/
def ambigCatsUptoRow : OpenClaim := { program := "ytkgmhkcncemmkaa", sum := "05ba2c963e3c5a03b1c8f93dc99c451a9ab0792102efbf4dd3a7bea8a33c24ff", func := "loupe/loupelaw09.AmbigCats", spec := "ambigCats", unfollowed := true, recurses := true, plainKeys := false, apart := false, narrowed := true }
def AmbigCatsUptoSaid : Prop := ambigCatsUptoRow.holds Try.pinned (OpenSpec.upto ambigCatsSpec)

/-- 'loupelaw09.AmbigIters', WHERE WHAT IT READS IS OF BULK AT MOST 1048576: true; the input reads as it did. -/
def ambigItersUptoRow : OpenClaim := { program := "ytkgmhkcncemmkaa", sum := "05ba2c963e3c5a03b1c8f93dc99c451a9ab0792102efbf4dd3a7bea8a33c24ff", func := "loupe/loupelaw09.AmbigIters", spec := "ambigIters", unfollowed := true, recurses := true, plainKeys := false, apart := false, narrowed := true }
def AmbigItersUptoSaid : Prop := ambigItersUptoRow.holds Try.pinned (OpenSpec.upto ambigItersSpec)

/-- 'loupelaw09.AmbigCatShows', WHERE WHAT IT READS IS OF BULK AT MOST 1048576: true; the input reads as it did. -/
def ambigCatShowsUptoRow : OpenClaim := { program := "ytkgmhkcncemmkaa", sum := "05ba2c963e3c5a03b1c8f93dc99c451a9ab0792102efbf4dd3a7bea8a33c24ff", func := "loupe/loupelaw09.AmbigCatShows", spec := "ambigCatShows", unfollowed := true, recurses := true, plainKeys := false, apart := false, narrowed := true }
def AmbigCatShowsUptoSaid : Prop := ambigCatShowsUptoRow.holds Try.pinned (OpenSpec.upto ambigCatShowsSpec)

/-- 'loupelaw09.AmbigIterShows', WHERE WHAT IT READS IS OF BULK AT MOST 1048576: true; the input reads as it did. -/
def ambigIterShowsUptoRow : OpenClaim := { program := "ytkgmhkcncemmkaa", sum := "05ba2c963e3c5a03b1c8f93dc99c451a9ab0792102efbf4dd3a7bea8a33c24ff", func := "loupe/loupelaw09.AmbigIterShows", spec := "ambigIterShows", unfollowed := true, recurses := true, plainKeys := false, apart := false, narrowed := true }
def AmbigIterShowsUptoSaid : Prop := ambigIterShowsUptoRow.holds Try.pinned (OpenSpec.upto ambigIterShowsSpec)

end Rows
end Go.Proofs.Ytkgmhkcncemmkaa
