/- One language's words behind each other: the program's automaton. -/
import Derived.Test.YtbcjhiponbfbnaaNfs
import Derived.Test.YtbcjhiponbfbnaaTrn
set_option linter.unusedSimpArgs false
set_option linter.unusedVariables false
set_option linter.unusedSectionVars false
namespace Go.Proofs.Ytbcjhiponbfbnaa
open Go.RowKit
set_option maxRecDepth 100000
variable {S T : Nat → Prop}
end Go.Proofs.Ytbcjhiponbfbnaa
