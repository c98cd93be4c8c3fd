/- Closed facts of this seat's program, each a lemma of its own (one great conjunction would outgrow the kernel's memory). No condition. -/
import Derived.Test.YtbcjhiponbfbnaaRows
import Derived.ProofKit
import Derived.OpenShut
import Derived.ShutString
set_option linter.unusedSimpArgs false
set_option linter.unusedVariables false
set_option linter.unusedSectionVars false
namespace Go.Proofs.Ytbcjhiponbfbnaa.Fct
theorem own : ownKnob Try.prog.godebug = none := by kernel_rfl
theorem laidOut : laidOutB Try.prog = true := by kernel_rfl
theorem mapsRow : mapsRowed Try.prog = true := by kernel_rfl
theorem stops : (Try.prog.stops == []) = true := by kernel_rfl
theorem stopKnobs : (Try.prog.stopKnobs == []) = true := by kernel_rfl
theorem plainK : (Rows.fnDeriveWordRow.plainKeys == Try.prog.plainKeys) = true := by kernel_rfl
theorem heard : Try.prog.stopsHeard = true := by kernel_rfl
theorem mayEnter : Try.prog.mayEnter = true := by kernel_rfl
theorem lifts : (Rows.fnDeriveWordRow.lifted == Try.prog.liftsFinal) = true := by kernel_rfl
theorem made : (Try.prog.make == some Rows.fnDeriveWordRow.make) = true := by kernel_rfl
theorem both {a b : Bool} (h1 : a = true) (h2 : b = true) : (a && b) = true := by rw [h1, h2]; rfl
end Go.Proofs.Ytbcjhiponbfbnaa.Fct
