/- slices.Clone at ints and moves. -/
import Derived.Lib.SliceRun
import Derived.Test.YtbcjhiponbfbnaaGD
set_option linter.unusedSimpArgs false
set_option linter.unusedVariables false
set_option linter.unusedSectionVars false
namespace Go.Proofs.Ytbcjhiponbfbnaa
open Go.RowKit
set_option maxRecDepth 100000
variable {S T : Nat → Prop}
theorem cells3_one (xs : List (Int × Int × Int)) : ∀ u ∈ cells3 xs, u.oneCell' = true := by
  intro u hu
  unfold cells3 at hu
  rw [List.mem_flatMap] at hu
  obtain ⟨p, _, h⟩ := hu
  simp at h
  rcases h with rfl | rfl | rfl <;> rfl
end Go.Proofs.Ytbcjhiponbfbnaa
