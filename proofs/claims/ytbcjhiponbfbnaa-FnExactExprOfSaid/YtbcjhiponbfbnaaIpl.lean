/- Whether an expression is plain: the program's answer. -/
import Derived.Test.YtbcjhiponbfbnaaFtq
import Derived.Test.YtbcjhiponbfbnaaLpl
set_option linter.unusedSimpArgs false
set_option linter.unusedVariables false
set_option linter.unusedSectionVars false
namespace Go.Proofs.Ytbcjhiponbfbnaa
open Go.RowKit
set_option maxRecDepth 100000
variable {S T : Nat → Prop}
end Go.Proofs.Ytbcjhiponbfbnaa
