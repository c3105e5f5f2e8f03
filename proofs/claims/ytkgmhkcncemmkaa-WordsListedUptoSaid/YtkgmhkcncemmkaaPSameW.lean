/- same: is the automaton the document's? -/
import Derived.Test.YtkgmhkcncemmkaaPTables
set_option linter.unusedVariables false
set_option linter.unusedSimpArgs false
set_option maxRecDepth 100000
namespace Go.Proofs.Ytkgmhkcncemmkaa
open Go.VC
attribute [local irreducible] mRun atRun

end Go.Proofs.Ytkgmhkcncemmkaa
