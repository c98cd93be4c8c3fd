/- The smallest automaton: the program's. -/
import Derived.Test.YthdbgpdidolmaaaXpl
import Derived.Test.YthdbgpdidolmaaaSst
import Derived.Deep.RegionHeld3
namespace Go.Proofs.Ythdbgpdidolmaaa
open Go.RowKit
set_option maxRecDepth 100000
variable {S T : Nat → Prop}
/-- An automaton comes back, in memory of its own. -/
def RD (D : DfaD) (w : World) (e : Ending) (w' : World) : Prop :=
  ∃ v1 v2, e = .returned (.agg #[v1, v2]) ∧ Below w.heap.size w w' ∧ Hid (DfaW (fun b => w.heap.size ≤ b ∧ b < w'.heap.size) w' v1 v2 D)
end Go.Proofs.Ythdbgpdidolmaaa
