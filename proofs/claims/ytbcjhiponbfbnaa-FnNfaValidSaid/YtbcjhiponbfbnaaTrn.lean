/- Turning an automaton with choices round: the program's answers and the reference's. -/
import Derived.Deep.RegionLaw
import Derived.Deep.RegionHeld3
import Derived.Test.YtbcjhiponbfbnaaNfs
set_option linter.unusedSimpArgs false
set_option linter.unusedVariables false
set_option linter.unusedSectionVars false
namespace Go.Proofs.Ytbcjhiponbfbnaa
open Go.RowKit
set_option maxRecDepth 100000
variable {S T : Nat → Prop}
theorem blk_st4 {w : World} {b g : Nat} {o : Obj} {x y z u : Value} (h : w.heap[b]? = some o) (hne : b ≠ g) : ((((w.setCell ⟨g, 0, none⟩ x).setCell ⟨g, 1, none⟩ y).setCell ⟨g, 2, none⟩ z).setCell ⟨g, 3, none⟩ u).heap[b]? = some o :=
  blkSet (blkSet (blkSet (blkSet h hne) hne) hne) hne
end Go.Proofs.Ytbcjhiponbfbnaa
