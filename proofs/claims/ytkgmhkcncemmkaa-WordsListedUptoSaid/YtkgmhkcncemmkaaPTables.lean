/- The law DfaTables: its walk. -/
import Derived.Test.YtkgmhkcncemmkaaPSame5
set_option linter.unusedVariables false
set_option linter.unusedSimpArgs false
set_option maxRecDepth 100000
namespace Go.Proofs.Ytkgmhkcncemmkaa
open Go.VC
attribute [local irreducible] mRun atRun

end Go.Proofs.Ytkgmhkcncemmkaa
