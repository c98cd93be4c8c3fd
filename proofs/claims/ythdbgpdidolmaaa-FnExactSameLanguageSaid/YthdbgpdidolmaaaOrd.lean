/- The order of exploring: the reference's. -/
import Derived.Test.YthdbgpdidolmaaaMim
namespace Go.Proofs.Ythdbgpdidolmaaa
open Go.RowKit
set_option maxRecDepth 100000
variable {S T : Nat → Prop}
end Go.Proofs.Ythdbgpdidolmaaa
