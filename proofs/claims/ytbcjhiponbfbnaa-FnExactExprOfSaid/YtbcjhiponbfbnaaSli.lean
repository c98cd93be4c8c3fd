/- slices.Grow of nil, slices.Concat for ints. At most 10^8 elements. -/
import Derived.Test.YtbcjhiponbfbnaaSlc
set_option linter.unusedSimpArgs false
set_option linter.unusedVariables false
set_option linter.unusedSectionVars false
namespace Go.Proofs.Ytbcjhiponbfbnaa
open Go.RowKit
set_option maxRecDepth 100000
variable {S : Nat → Prop}
end Go.Proofs.Ytbcjhiponbfbnaa
